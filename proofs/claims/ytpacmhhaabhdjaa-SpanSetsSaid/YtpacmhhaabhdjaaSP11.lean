-- Written by a program of this session: plain functions and their walks. Lean checks it.
import Derived.Test.YtpacmhhaabhdjaaSP0
import Derived.Test.YtpacmhhaabhdjaaSP1
import Derived.Test.YtpacmhhaabhdjaaSP3
import Derived.Test.YtpacmhhaabhdjaaSP8
import Derived.Test.YtpacmhhaabhdjaaSP10
namespace Go.Proofs.Ytpacmhhaabhdjaa.SP
open Go.RowKit Go.Proofs.YtpacmhhaabhdjaaW.PrintWords Go.Proofs.YtpacmhhaabhdjaaW.PrintLast Go.Proofs.YtpacmhhaabhdjaaW.PrintMore
attribute [local go_sem] max2_int min2_int max_two min_two max_three min_three max_four min_four   -- for this text's walks alone
set_option linter.unusedVariables false
set_option linter.unusedSimpArgs false

attribute [local go_sem high] eqA56
/-! ### avermentlaw10_SpanSets: function 8 -/
def avermentlaw10_SpanSets.j0 : Nat → Int → Bool → Int → Int → Int → Int → Option (Bool)
 | 0, _, _, _, _, _, _ => none
 | k + 1, x2, x55, x386000, x386001, x387000, x387001 => if x55 = true then (some false) else ((span_Of.f x2).bind fun bt409 => ((avermentlaw10_From.f bt409.1 bt409.2).bind fun bt411 => (if (bt411.1 == x2 && (bt411.2 == x2)) = true then ((span_Any.f).bind fun bt413 => ((avermentlaw10_From.f bt413.1 bt413.2).bind fun bt415 => ((avermentref10_Any.f).bind fun bt417 => (if (bt415.1 == bt417.1 && (bt415.2 == bt417.2)) = true then ((avermentlaw10_To.f x386000 x386001).bind fun bt419 => ((span_Has.f bt419.1 bt419.2 x2).bind fun t421 => ((avermentref10_Has.f x386000 x386001 x2).bind fun t422 => (if (t421 == t422) = true then ((avermentlaw10_To.f x386000 x386001).bind fun bt423 => ((avermentlaw10_To.f x387000 x387001).bind fun bt425 => ((span_Join.f bt423.1 bt423.2 bt425.1 bt425.2).bind fun bt427 => ((avermentlaw10_From.f bt427.1 bt427.2).bind fun bt429 => ((avermentref10_Join.f x386000 x386001 x387000 x387001).bind fun bt431 => (if (bt429.1 == bt431.1 && (bt429.2 == bt431.2)) = true then ((avermentlaw10_To.f x386000 x386001).bind fun bt433 => ((avermentlaw10_To.f x387000 x387001).bind fun bt435 => ((span_Within.f bt433.1 bt433.2 bt435.1 bt435.2).bind fun t437 => ((avermentref10_Within.f x386000 x386001 x387000 x387001).bind fun t438 => (if (t437 == t438) = true then ((avermentlaw10_To.f x386000 x386001).bind fun bt439 => ((avermentlaw10_To.f x387000 x387001).bind fun bt441 => ((span_Widen.f bt439.1 bt439.2 bt441.1 bt441.2).bind fun bt443 => ((avermentlaw10_From.f bt443.1 bt443.2).bind fun bt445 => ((avermentref10_Widen.f x386000 x386001 x387000 x387001).bind fun bt447 => (some (bt445.1 == bt447.1 && (bt445.2 == bt447.2)))))))) else (some false)))))) else (some false))))))) else (some false))))) else (some false))))) else (some false))))
def avermentlaw10_SpanSets.f (k : Nat) (a0_0 : Int) (a0_1 : Int) (a1_0 : Int) (a1_1 : Int) (a2 : Int) : Option (Bool) := (avermentlaw10_To.f a0_0 a0_1).bind fun bt387 => ((span_Right.f bt387.1 bt387.2).bind fun t389 => ((avermentref10_Fix.f a0_0 a0_1).bind fun bt390 => ((avermentref10_Fix.f a1_0 a1_1).bind fun bt392 => ((avermentlaw10_To.f bt390.1 bt390.2).bind fun bt394 => ((avermentlaw10_To.f bt392.1 bt392.2).bind fun bt396 => ((span_Meet.f bt394.1 bt394.2 bt396.1 bt396.2).bind fun bt398 => ((avermentref10_Meet.f bt390.1 bt390.2 bt392.1 bt392.2).bind fun bt402 => ((avermentlaw10_told.f k).bind fun t406 => (if t406 = true then (if ((t389 == (decide (a0_0 ≤ a0_1))) = true) then ((avermentlaw10_From.f bt398.1 bt398.2.1).bind fun bt407 => (if (!(bt407.1 == bt402.1) || (!(bt407.2 == bt402.2.1))) = true then (avermentlaw10_SpanSets.j0 k a2 true bt390.1 bt390.2 bt392.1 bt392.2) else (avermentlaw10_SpanSets.j0 k a2 (bt398.2.2 != bt402.2.2) bt390.1 bt390.2 bt392.1 bt392.2))) else (avermentlaw10_SpanSets.j0 k a2 true bt390.1 bt390.2 bt392.1 bt392.2)) else (avermentlaw10_SpanSets.j0 k a2 true bt390.1 bt390.2 bt392.1 bt392.2))))))))))
theorem avermentlaw10_SpanSets.mono_l : ∀ k, (∀ y0 y1 y2 y3 y4 y5, LeO (avermentlaw10_SpanSets.j0 k y0 y1 y2 y3 y4 y5) (avermentlaw10_SpanSets.j0 (k + 1) y0 y1 y2 y3 y4 y5))
 | 0 => fun _ _ _ _ _ _ r h => by simp [avermentlaw10_SpanSets.j0] at h
 | k + 1 => by
  have ih0 := avermentlaw10_SpanSets.mono_l k
  ·
   intro y0 y1 y2 y3 y4 y5
   unfold avermentlaw10_SpanSets.j0
   repeat' first
   | (with_reducible exact ih0 _ _ _ _ _ _)
   | (with_reducible exact avermentlaw10_told.mono _)
   | (with_reducible exact LeO.refl _)
   | (with_reducible exact LeO.none _)
   | (with_reducible refine LeO.ite ?_ ?_)
   | (with_reducible refine LeO.bind ?_ (fun _ => ?_))
   | exact ih0 _ _ _ _ _ _
   | exact avermentlaw10_told.mono _
   | exact LeO.none _
   | refine LeO.ite ?_ ?_
   | refine LeO.bind ?_ (fun _ => ?_)
theorem avermentlaw10_SpanSets.mono : ∀ a0 a1 a2 a3 a4 k, LeO (avermentlaw10_SpanSets.f k a0 a1 a2 a3 a4) (avermentlaw10_SpanSets.f (k + 1) a0 a1 a2 a3 a4) := by
 intro a0 a1 a2 a3 a4 k
 have ih0 := avermentlaw10_SpanSets.mono_l k
 unfold avermentlaw10_SpanSets.f
 repeat' first
   | (with_reducible exact ih0 _ _ _ _ _ _)
   | (with_reducible exact avermentlaw10_told.mono _)
   | (with_reducible exact LeO.refl _)
   | (with_reducible exact LeO.none _)
   | (with_reducible refine LeO.ite ?_ ?_)
   | (with_reducible refine LeO.bind ?_ (fun _ => ?_))
   | exact ih0 _ _ _ _ _ _
   | exact avermentlaw10_told.mono _
   | exact LeO.none _
   | refine LeO.ite ?_ ?_
   | refine LeO.bind ?_ (fun _ => ?_)
def avermentlaw10_SpanSets.T1 : Bool × List (List Nat × List Nat) := (true, [([], []), ([0], [0]), ([1, 1], [1]), ([], []), ([3], [3]), ([], []), ([5], [5]), ([4, 6], [4, 6]), ([2, 7], [2, 7]), ([8, 2, 0, 1, 2, 3, 4, 5, 6, 7, 8], [8])])
def avermentlaw10_SpanSets.B1 : List Nat := [0, 1, 3, 0, 8, 0, 32, 120, 255, 511]
theorem avermentlaw10_SpanSets.tab1 : rtab .any (opsOf Try.f8 1) = avermentlaw10_SpanSets.T1 := by kernel_rfl
theorem avermentlaw10_SpanSets.bits1 : waitsOk avermentlaw10_SpanSets.T1.2 avermentlaw10_SpanSets.B1 = true := by kernel_rfl
def avermentlaw10_SpanSets.T3 : Bool × List (List Nat × List Nat) := (true, [([], []), ([0], [0]), ([], []), ([2, 1], [2]), ([1, 3, 3], [1, 3]), ([4], [4]), ([5], [5]), ([5], [5]), ([], []), ([8, 6, 4, 0, 1, 2, 3, 4, 5, 6, 8], [6, 8]), ([7, 9, 0, 1, 2, 3, 4, 5, 6, 7, 8, 9], [7])])
def avermentlaw10_SpanSets.B3 : List Nat := [0, 1, 0, 7, 15, 31, 63, 63, 0, 383, 1023]
theorem avermentlaw10_SpanSets.tab3 : rtab .any (opsOf Try.f8 3) = avermentlaw10_SpanSets.T3 := by kernel_rfl
theorem avermentlaw10_SpanSets.bits3 : waitsOk avermentlaw10_SpanSets.T3.2 avermentlaw10_SpanSets.B3 = true := by kernel_rfl
def avermentlaw10_SpanSets.T5 : Bool × List (List Nat × List Nat) := (true, [([], []), ([0], [0]), ([1, 0], [1]), ([2], [2]), ([3, 2], [2, 3]), ([2, 4], [2, 4]), ([5, 2], [5]), ([6], [6]), ([7, 6, 6], [6, 7]), ([6], [6]), ([8, 9, 6], [6, 8, 9]), ([6, 10], [6, 10]), ([11, 8], [11]), ([12], [12]), ([12], [12]), ([13, 14, 12], [12, 13, 14]), ([12, 15], [12, 15])])
def avermentlaw10_SpanSets.B5 : List Nat := [0, 1, 3, 7, 15, 31, 63, 127, 255, 127, 1023, 2047, 4095, 8191, 8191, 32767, 65535]
theorem avermentlaw10_SpanSets.tab5 : rtab .any (opsOf Try.f8 5) = avermentlaw10_SpanSets.T5 := by kernel_rfl
theorem avermentlaw10_SpanSets.bits5 : waitsOk avermentlaw10_SpanSets.T5.2 avermentlaw10_SpanSets.B5 = true := by kernel_rfl
def avermentlaw10_SpanSets.T7 : Bool × List (List Nat × List Nat) := (true, [([], []), ([0], [0]), ([1, 1], [1]), ([], []), ([], []), ([3, 4], [3, 4]), ([2, 5], [2, 5]), ([6, 2], [6]), ([7, 7], [7]), ([8, 8, 7], [7, 8]), ([9, 7], [7]), ([9, 10, 7], [7, 9, 10]), ([7, 11], [7, 11]), ([12, 10], [12]), ([13], [13]), ([14, 13, 13], [13, 14]), ([13], [13]), ([15, 16, 15, 13], [13, 15, 16]), ([13], [13]), ([13], [13]), ([18, 19, 17, 13], [13, 18, 19]), ([17, 20, 13], [13, 17, 20]), ([13, 21], [13, 21]), ([22, 20], [22]), ([23], [23]), ([24, 23, 23], [23, 24]), ([23], [23]), ([26, 25, 23], [23, 26]), ([25, 27, 27, 23], [23, 25, 27]), ([28, 28, 23], [23, 28]), ([23], [23]), ([23], [23]), ([30, 31, 29, 23], [23, 30, 31]), ([29, 32, 23], [23, 29, 32]), ([23, 33], [23, 33]), ([34, 32], [34]), ([35], [35]), ([36, 35, 35], [35, 36]), ([35], [35]), ([38, 37, 35], [35, 38]), ([37, 39, 39, 35], [35, 37, 39]), ([35], [35]), ([35], [35]), ([41, 42, 40, 35], [35, 41, 42]), ([40, 43, 35], [35, 40, 43]), ([35, 44], [35, 44]), ([45, 43], [45]), ([46], [46]), ([47, 46, 46], [46, 47]), ([46], [46]), ([49, 48, 46], [46, 49]), ([48, 50, 50, 46], [46, 48, 50]), ([51, 51, 46], [46, 51]), ([46], [46]), ([46], [46]), ([53, 54, 52, 46], [46, 53, 54]), ([52, 55, 46], [46, 52, 55]), ([46, 56], [46, 56]), ([57, 55, 0, 1, 2, 3, 4, 5, 6, 7, 8, 9, 10, 11, 12, 13, 14, 15, 16, 17, 18, 19, 20, 21, 22, 23, 24, 25, 26, 27, 28, 29, 30, 31, 32, 33, 34, 35, 36, 37, 38, 39, 40, 41, 42, 43, 44, 45, 46, 47, 48, 49, 50, 51, 52, 53, 54, 55, 56, 57], [57])])
def avermentlaw10_SpanSets.B7 : List Nat := [0, 1, 3, 0, 0, 24, 63, 127, 255, 511, 1023, 2047, 4095, 8191, 16383, 32767, 16383, 131071, 16383, 16383, 1048575, 2097151, 4194303, 8388607, 16777215, 33554431, 16777215, 134217727, 268435455, 536870911, 16777215, 16777215, 4294967295, 8589934591, 17179869183, 34359738367, 68719476735, 137438953471, 68719476735, 549755813887, 1099511627775, 68719476735, 68719476735, 8796093022207, 17592186044415, 35184372088831, 70368744177663, 140737488355327, 281474976710655, 140737488355327, 1125899906842623, 2251799813685247, 4503599627370495, 140737488355327, 140737488355327, 36028797018963967, 72057594037927935, 144115188075855871, 288230376151711743]
theorem avermentlaw10_SpanSets.tab7 : rtab .any (opsOf Try.f8 7) = avermentlaw10_SpanSets.T7 := by kernel_rfl
theorem avermentlaw10_SpanSets.bits7 : waitsOk avermentlaw10_SpanSets.T7.2 avermentlaw10_SpanSets.B7 = true := by kernel_rfl
set_option maxHeartbeats 8000000 in
set_option maxRecDepth 100000 in
theorem avermentlaw10_SpanSets.calls (k : Nat) (a0_0 : Int) (a0_1 : Int) (a1_0 : Int) (a1_1 : Int) (a2 : Int) (r : Bool) (w : World) (hr_ : Aside0 (r = true)) (h : avermentlaw10_SpanSets.f k a0_0 a0_1 a1_0 a1_1 a2 = some r) :
  Calls Try.prog 8 #[.agg #[.int .i64 a0_0, .int .i64 a0_1], .agg #[.int .i64 a1_0, .int .i64 a1_1], .int .i64 a2] w fun e w' => e = .returned (.bool r) ∧ Below w.heap.size w w' := by
 have hu56 := Try.underlying56
 have hu59 := Try.underlying59
 have HB := Aside0.mk (Below.refl w.heap.size w)
 have H : ((avermentlaw10_To.f a0_0 a0_1).bind fun bt387 => ((span_Right.f bt387.1 bt387.2).bind fun t389 => ((avermentref10_Fix.f a0_0 a0_1).bind fun bt390 => ((avermentref10_Fix.f a1_0 a1_1).bind fun bt392 => ((avermentlaw10_To.f bt390.1 bt390.2).bind fun bt394 => ((avermentlaw10_To.f bt392.1 bt392.2).bind fun bt396 => ((span_Meet.f bt394.1 bt394.2 bt396.1 bt396.2).bind fun bt398 => ((avermentref10_Meet.f bt390.1 bt390.2 bt392.1 bt392.2).bind fun bt402 => ((avermentlaw10_told.f k).bind fun t406 => (if t406 = true then (if ((t389 == (decide (a0_0 ≤ a0_1))) = true) then ((avermentlaw10_From.f bt398.1 bt398.2.1).bind fun bt407 => (if (!(bt407.1 == bt402.1) || (!(bt407.2 == bt402.2.1))) = true then (avermentlaw10_SpanSets.j0 k a2 true bt390.1 bt390.2 bt392.1 bt392.2) else (avermentlaw10_SpanSets.j0 k a2 (bt398.2.2 != bt402.2.2) bt390.1 bt390.2 bt392.1 bt392.2))) else (avermentlaw10_SpanSets.j0 k a2 true bt390.1 bt390.2 bt392.1 bt392.2)) else (avermentlaw10_SpanSets.j0 k a2 true bt390.1 bt390.2 bt392.1 bt392.2))))))))))) = some r := h
 clear h
 replace H := Option.bind_eq_some_iff.mp H
 obtain ⟨⟨t387, t388⟩, A40, H⟩ := H
 (try dsimp only at H)
 have A4 := Aside0.mk A40
 clear A40
 replace H := Option.bind_eq_some_iff.mp H
 obtain ⟨t389, A50, H⟩ := H
 (try dsimp only at H)
 have A5 := Aside0.mk A50
 clear A50
 replace H := Option.bind_eq_some_iff.mp H
 obtain ⟨⟨t390, t391⟩, A60, H⟩ := H
 (try dsimp only at H)
 have A6 := Aside0.mk A60
 clear A60
 replace H := Option.bind_eq_some_iff.mp H
 obtain ⟨⟨t392, t393⟩, A70, H⟩ := H
 (try dsimp only at H)
 have A7 := Aside0.mk A70
 clear A70
 replace H := Option.bind_eq_some_iff.mp H
 obtain ⟨⟨t394, t395⟩, A80, H⟩ := H
 (try dsimp only at H)
 have A8 := Aside0.mk A80
 clear A80
 replace H := Option.bind_eq_some_iff.mp H
 obtain ⟨⟨t396, t397⟩, A90, H⟩ := H
 (try dsimp only at H)
 have A9 := Aside0.mk A90
 clear A90
 replace H := Option.bind_eq_some_iff.mp H
 obtain ⟨⟨t398, t399, t400⟩, A100, H⟩ := H
 (try dsimp only at H)
 have A10 := Aside0.mk A100
 clear A100
 replace H := Option.bind_eq_some_iff.mp H
 obtain ⟨⟨t402, t403, t404⟩, A110, H⟩ := H
 (try dsimp only at H)
 have A11 := Aside0.mk A110
 clear A110
 have HC12 := Aside0.mk H
 clear H
 go_enter Try.func8, Try.ntmps8
 try go_wp2_with (first | ((with_reducible refine gate_dst (N := 3) rfl ?_); refine box_event ?hg (N := 3) ?hd (cs := #[.int .i64 a0_0, .int .i64 a0_1]) (t := 56) ?hr ?_; (case hd => rfl); (case hg => rfl); (case hr => first | (go_simp; done) | (go_simp; rfl)); intro gb385 hg w13 hbox hb; have BK385 := Aside0.mk (hbox); have GW385 := geb hg HB rfl; have GE385 := geb hg HB rfl; replace HB := hst HB hb rfl; clear hb hbox hg) | ((with_reducible refine gate_dst (N := 4) rfl ?_); refine box_event ?hg (N := 4) ?hd (cs := #[.int .i64 a1_0, .int .i64 a1_1]) (t := 56) ?hr ?_; (case hd => rfl); (case hg => rfl); (case hr => first | (go_simp; done) | (go_simp; rfl)); intro gb386 hg w14 hbox hb; have BK386 := Aside0.mk (hbox); have GW386 := geb hg HB rfl; have GE386 := geb hg HB rfl; have NB385_386 := nbl hg BK385 rfl; have NB386_385 := nbr hg BK385 rfl; replace BK385 := bb BK385 hb rfl; replace HB := hst HB hb rfl; clear hb hbox hg))
 replace BK385 := Aside0.mk (blk_drew BK385.out); replace BK386 := Aside0.mk (blk_drew BK386.out); replace HB := Aside0.mk (below_drew1 HB.out)
 refine start_ (n := 10) (S := fun w' => w'.cell? ⟨gb385, 0, none⟩ = some (.int .i64 a0_0) ∧ w'.cell? ⟨gb385, 1, none⟩ = some (.int .i64 a0_1)) (ds := []) #[false, false, false, false, false, false, false, false, false, false] (by kernel_rfl) rfl rfl ⟨bc BK385 0 rfl, bc BK385 1 rfl⟩ (fun hHeld => ?_); refine with_tabW avermentlaw10_SpanSets.tab1 avermentlaw10_SpanSets.bits1 (fun HT_ HW_ => ?_)
 generalize w14.drew = w15 at BK385 BK386 HB hHeld ⊢
 refine pure_ (i := 3) (N := some 15) (v := ?_) (a' := ?_) #[false, false, false, true, false, false, false, false, false, false] rfl rfl (any_of HT_.out (by kernel_rfl)) (fun _ _ _ h => h) (Or.inl ⟨by rfl, ?_⟩) ?_ ?_
 rotate_left; · (intro w'; go_simp; with_reducible rfl)
 rotate_left; · (simp only [Act.put, List.setIfInBounds_toArray, List.set_cons_zero, List.set_cons_succ, i64_w, i32_w]; rfl)
 refine pure_ (i := 5) (N := some 17) (v := ?_) (a' := ?_) #[false, false, false, true, false, true, false, false, false, false] rfl rfl (any_of HT_.out (by kernel_rfl)) (fun _ _ _ h => h) (Or.inl ⟨by rfl, ?_⟩) ?_ ?_
 rotate_left; · (intro w'; go_simp; with_reducible rfl)
 rotate_left; · (simp only [Act.put, List.setIfInBounds_toArray, List.set_cons_zero, List.set_cons_succ, i64_w, i32_w]; rfl)
 refine take_ (i := 0) (N := some 12) (v := ?_) (a' := ?_) #[true, false, false, true, false, true, false, false, false, false] rfl rfl (take_ofW HT_.out HW_.out (by kernel_rfl)) (fun _ _ _ h => h) (Or.inl ⟨by rfl, ?_⟩) hHeld ?_ ?_
 rotate_left
 ·
  rintro w' ⟨s0, s1⟩
  go_simp
  with_reducible rfl
 rotate_left
 ·
  simp only [Act.put, List.setIfInBounds_toArray, List.set_cons_zero, List.set_cons_succ, i64_w, i32_w]
  rfl
 refine take_ (i := 4) (N := some 16) (v := ?_) (a' := ?_) #[true, false, false, true, true, true, false, false, false, false] rfl rfl (take_ofW HT_.out HW_.out (by kernel_rfl)) (fun _ _ _ h => h) (Or.inl ⟨by rfl, ?_⟩) hHeld ?_ ?_
 rotate_left
 ·
  rintro w' ⟨s0, s1⟩
  go_simp
  with_reducible rfl
 rotate_left
 ·
  simp only [Act.put, List.setIfInBounds_toArray, List.set_cons_zero, List.set_cons_succ, i64_w, i32_w]
  rfl
 refine take_ (i := 6) (N := some 18) (v := ?_) (a' := ?_) #[true, false, false, true, true, true, true, false, false, false] rfl rfl (take_ofW HT_.out HW_.out (by kernel_rfl)) (fun _ _ _ h => h) (Or.inl ⟨by rfl, ?_⟩) hHeld ?_ ?_
 rotate_left
 ·
  rintro w' ⟨s0, s1⟩
  go_simp
  with_reducible rfl
 rotate_left
 ·
  simp only [Act.put, List.setIfInBounds_toArray, List.set_cons_zero, List.set_cons_succ, i64_w, i32_w]
  rfl
 refine pure_ (i := 7) (N := some 19) (v := ?_) (a' := ?_) #[true, false, false, true, true, true, true, true, false, false] rfl rfl (any_of HT_.out (by kernel_rfl)) (fun _ _ _ h => h) (Or.inl ⟨by rfl, ?_⟩) ?_ ?_
 rotate_left; · (intro w'; go_simp; with_reducible rfl)
 rotate_left; · (simp only [Act.put, List.setIfInBounds_toArray, List.set_cons_zero, List.set_cons_succ, i64_w, i32_w]; rfl)
 refine one_ (i := 1) (N := some 13) #[true, true, false, true, true, true, true, true, false, false] rfl rfl (one_of HT_.out (by kernel_rfl)) (by decide) (fun K hK => ?_)
 refine goes_ Try.func37 (by kernel_rfl) rfl #[.agg #[.int .i64 a0_0, .int .i64 a0_1]] (by rfl) rfl rfl (mapq rfl) ?_
 with_reducible refine (avermentlaw10_To.calls a0_0 a0_1 t387 t388 _ A4.out).mono ?_
 rintro e w16 ⟨rfl, hb⟩
 refine ⟨_, rfl, ?_⟩
 replace BK385 := bb BK385 hb rfl; replace BK386 := bb BK386 hb rfl; replace HB := hst HB hb rfl
 (try clear hb)
 refine hK.out _ _ ⟨bc BK385 0 rfl, bc BK385 1 rfl⟩ (fun hHeld => ?_)
 clear hK K
 refine norm_ (a' := ?_) ?_ ?_
 rotate_left; · (show Act.put _ (some 13) _ = _; simp only [Act.put, List.setIfInBounds_toArray, List.set_cons_zero, List.set_cons_succ, i64_w, i32_w]; rfl)
 refine one_ (i := 2) (N := some 14) #[true, true, true, true, true, true, true, true, false, false] rfl rfl (one_of HT_.out (by kernel_rfl)) (by decide) (fun K hK => ?_)
 refine goes_ Try.func42 (by kernel_rfl) rfl #[.agg #[.int .i64 t387, .int .i64 t388]] (by rfl) rfl rfl (mapq rfl) ?_
 with_reducible refine (span_Right.calls t387 t388 t389 _ A5.out).mono ?_
 rintro e w17 ⟨rfl, hb⟩
 refine ⟨_, rfl, ?_⟩
 replace BK385 := bb BK385 hb rfl; replace BK386 := bb BK386 hb rfl; replace HB := hst HB hb rfl
 (try clear hb)
 refine hK.out _ _ ⟨bc BK385 0 rfl, bc BK385 1 rfl⟩ (fun hHeld => ?_)
 clear hK K
 refine norm_ (a' := ?_) ?_ ?_
 rotate_left; · (show Act.put _ (some 14) _ = _; simp only [Act.put, List.setIfInBounds_toArray, List.set_cons_zero, List.set_cons_succ, i64_w, i32_w]; rfl)
 refine pure_ (i := 8) (N := some 20) (v := ?_) (a' := ?_) #[true, true, true, true, true, true, true, true, true, false] rfl rfl (any_of HT_.out (by kernel_rfl)) (fun _ _ _ h => h) (Or.inl ⟨by rfl, ?_⟩) ?_ ?_
 rotate_left; · (intro w'; go_simp; with_reducible rfl)
 rotate_left; · (simp only [Act.put, List.setIfInBounds_toArray, List.set_cons_zero, List.set_cons_succ, i64_w, i32_w]; rfl)
 refine pure_ (i := 9) (N := some 7) (v := ?_) (a' := ?_) #[true, true, true, true, true, true, true, true, true, true] rfl rfl (any_of HT_.out (by kernel_rfl)) (fun _ _ _ h => h) (Or.inl ⟨by rfl, ?_⟩) ?_ ?_
 rotate_left; · (intro w'; go_simp; with_reducible rfl)
 rotate_left; · (simp only [Act.put, List.setIfInBounds_toArray, List.set_cons_zero, List.set_cons_succ, i64_w, i32_w]; rfl)
 refine done_ (done_of HT_.out (by kernel_rfl)) ?_
 try go_wp2
 replace BK385 := Aside0.mk (blk_drew BK385.out); replace BK386 := Aside0.mk (blk_drew BK386.out); replace HB := Aside0.mk (below_drew1 HB.out)
 refine start_ (n := 6) (S := fun w' => w'.cell? ⟨gb385, 0, none⟩ = some (.int .i64 a0_0) ∧ w'.cell? ⟨gb385, 1, none⟩ = some (.int .i64 a0_1) ∧ w'.cell? ⟨gb386, 0, none⟩ = some (.int .i64 a1_0) ∧ w'.cell? ⟨gb386, 1, none⟩ = some (.int .i64 a1_1)) (ds := [4, 5]) #[false, false, false, false, false, false] (by kernel_rfl) rfl rfl ⟨bc BK385 0 rfl, bc BK385 1 rfl, bc BK386 0 rfl, bc BK386 1 rfl⟩ (fun hHeld => ?_)
 generalize w17.drew = w18 at BK385 BK386 HB hHeld ⊢
 refine take_ (i := 0) (N := some 21) (v := ?_) (a' := ?_) #[true, false, false, false, false, false] rfl rfl (by kernel_rfl) (fun _ _ _ h => h) (Or.inl ⟨by rfl, ?_⟩) hHeld ?_ ?_
 rotate_left
 ·
  rintro w' ⟨s0, s1, s2, s3⟩
  go_simp
  with_reducible rfl
 rotate_left
 ·
  simp only [Act.put, List.setIfInBounds_toArray, List.set_cons_zero, List.set_cons_succ, i64_w, i32_w]
  rfl
 refine take_ (i := 2) (N := some 23) (v := ?_) (a' := ?_) #[true, false, true, false, false, false] rfl rfl (by kernel_rfl) (fun _ _ _ h => h) (Or.inl ⟨by rfl, ?_⟩) hHeld ?_ ?_
 rotate_left
 ·
  rintro w' ⟨s0, s1, s2, s3⟩
  go_simp
  with_reducible rfl
 rotate_left
 ·
  simp only [Act.put, List.setIfInBounds_toArray, List.set_cons_zero, List.set_cons_succ, i64_w, i32_w]
  rfl
 refine one_ (i := 1) (N := some 22) #[true, true, true, false, false, false] rfl rfl (by kernel_rfl) (by decide) (fun K hK => ?_)
 refine goes_ Try.func35 (by kernel_rfl) rfl #[.agg #[.int .i64 a0_0, .int .i64 a0_1]] (by rfl) rfl rfl (mapq rfl) ?_
 with_reducible refine (avermentref10_Fix.calls a0_0 a0_1 t390 t391 _ A6.out).mono ?_
 rintro e w19 ⟨rfl, hb⟩
 refine ⟨_, rfl, ?_⟩
 replace BK385 := bb BK385 hb rfl; replace BK386 := bb BK386 hb rfl; replace HB := hst HB hb rfl
 (try clear hb)
 refine hK.out _ _ ⟨bc BK385 0 rfl, bc BK385 1 rfl, bc BK386 0 rfl, bc BK386 1 rfl⟩ (fun hHeld => ?_)
 clear hK K
 refine norm_ (a' := ?_) ?_ ?_
 rotate_left; · (show Act.put _ (some 22) _ = _; simp only [Act.put, List.setIfInBounds_toArray, List.set_cons_zero, List.set_cons_succ, i64_w, i32_w]; rfl)
 refine one_ (i := 3) (N := some 24) #[true, true, true, true, false, false] rfl rfl (by kernel_rfl) (by decide) (fun K hK => ?_)
 refine goes_ Try.func35 (by kernel_rfl) rfl #[.agg #[.int .i64 a1_0, .int .i64 a1_1]] (by rfl) rfl rfl (mapq rfl) ?_
 with_reducible refine (avermentref10_Fix.calls a1_0 a1_1 t392 t393 _ A7.out).mono ?_
 rintro e w20 ⟨rfl, hb⟩
 refine ⟨_, rfl, ?_⟩
 replace BK385 := bb BK385 hb rfl; replace BK386 := bb BK386 hb rfl; replace HB := hst HB hb rfl
 (try clear hb)
 refine hK.out _ _ ⟨bc BK385 0 rfl, bc BK385 1 rfl, bc BK386 0 rfl, bc BK386 1 rfl⟩ (fun hHeld => ?_)
 clear hK K
 refine norm_ (a' := ?_) ?_ ?_
 rotate_left; · (show Act.put _ (some 24) _ = _; simp only [Act.put, List.setIfInBounds_toArray, List.set_cons_zero, List.set_cons_succ, i64_w, i32_w]; rfl)
 refine last_ (i := 4) (N := none) #[true, true, true, true, true, false] rfl rfl (by kernel_rfl) (by decide) (fun K hK => ?_)
 have hs21 : w20.cell? ⟨gb385, 0, none⟩ = some (.int .i64 a0_0) := bc BK385 0 rfl
 have hfs21 := blk_frozen BK385.out 0
 have hns21_1 := NB386_385.out
 have hms21_1 := NB385_386.out
 have hs22 : w20.cell? ⟨gb385, 1, none⟩ = some (.int .i64 a0_1) := bc BK385 1 rfl
 have hfs22 := blk_frozen BK385.out 1
 have hns22_1 := NB386_385.out
 have hms22_1 := NB385_386.out
 refine skip_ (w1 := ?_) (by rfl) rfl ?_ ?_
 rotate_left
 ·
  go_simp
  rfl
 refine hK.out _ _ ?_
 clear hK K
 refine last_ (i := 5) (N := none) #[true, true, true, true, true, true] rfl rfl (by kernel_rfl) (by decide) (fun K hK => ?_)
 have hs23 : w20.cell? ⟨gb386, 0, none⟩ = some (.int .i64 a1_0) := bc BK386 0 rfl
 have hfs23 := blk_frozen BK386.out 0
 have hns23_0 := NB385_386.out
 have hms23_0 := NB386_385.out
 have hs24 : w20.cell? ⟨gb386, 1, none⟩ = some (.int .i64 a1_1) := bc BK386 1 rfl
 have hfs24 := blk_frozen BK386.out 1
 have hns24_0 := NB385_386.out
 have hms24_0 := NB386_385.out
 refine skip_ (w1 := ?_) (by rfl) rfl ?_ ?_
 rotate_left
 ·
  go_simp
  rfl
 refine hK.out _ _ ?_
 clear hK K
 refine done_ (by kernel_rfl) ?_
 try go_wp2
 have n0_ : Aside0 (((((w20.setCell ⟨gb385, 0, none⟩ (.int .i64 t390)).setCell ⟨gb385, 1, none⟩ (.int .i64 t391)).setCell ⟨gb386, 0, none⟩ (.int .i64 t392)).setCell ⟨gb386, 1, none⟩ (.int .i64 t393)).heap[gb385]? = some (.cells #[.int .i64 t390, .int .i64 t391] 56 (0, 0))) := ⟨by (with_reducible repeat (first | refine blk_drewN ?_ _ | refine blk_drew ?_ | refine blk_alloc ?_ _)); refine blk_far ?_ NB385_386.out _; (with_reducible repeat (first | refine blk_drewN ?_ _ | refine blk_drew ?_ | refine blk_alloc ?_ _)); refine blk_far ?_ NB385_386.out _; (with_reducible repeat (first | refine blk_drewN ?_ _ | refine blk_drew ?_ | refine blk_alloc ?_ _)); refine blk_put (cs := #[.int .i64 t390, .int .i64 a0_1]) ?_ 1 _ rfl; (with_reducible repeat (first | refine blk_drewN ?_ _ | refine blk_drew ?_ | refine blk_alloc ?_ _)); refine blk_put (cs := #[.int .i64 a0_0, .int .i64 a0_1]) ?_ 0 _ rfl; (with_reducible repeat (first | refine blk_drewN ?_ _ | refine blk_drew ?_ | refine blk_alloc ?_ _)); exact BK385.out⟩
 have n1_ : Aside0 (((((w20.setCell ⟨gb385, 0, none⟩ (.int .i64 t390)).setCell ⟨gb385, 1, none⟩ (.int .i64 t391)).setCell ⟨gb386, 0, none⟩ (.int .i64 t392)).setCell ⟨gb386, 1, none⟩ (.int .i64 t393)).heap[gb386]? = some (.cells #[.int .i64 t392, .int .i64 t393] 56 (0, 0))) := ⟨by (with_reducible repeat (first | refine blk_drewN ?_ _ | refine blk_drew ?_ | refine blk_alloc ?_ _)); refine blk_put (cs := #[.int .i64 t392, .int .i64 a1_1]) ?_ 1 _ rfl; (with_reducible repeat (first | refine blk_drewN ?_ _ | refine blk_drew ?_ | refine blk_alloc ?_ _)); refine blk_put (cs := #[.int .i64 a1_0, .int .i64 a1_1]) ?_ 0 _ rfl; (with_reducible repeat (first | refine blk_drewN ?_ _ | refine blk_drew ?_ | refine blk_alloc ?_ _)); refine blk_far ?_ NB386_385.out _; (with_reducible repeat (first | refine blk_drewN ?_ _ | refine blk_drew ?_ | refine blk_alloc ?_ _)); refine blk_far ?_ NB386_385.out _; (with_reducible repeat (first | refine blk_drewN ?_ _ | refine blk_drew ?_ | refine blk_alloc ?_ _)); exact BK386.out⟩
 have n2_ : Aside0 (Below w.heap.size w ((((w20.setCell ⟨gb385, 0, none⟩ (.int .i64 t390)).setCell ⟨gb385, 1, none⟩ (.int .i64 t391)).setCell ⟨gb386, 0, none⟩ (.int .i64 t392)).setCell ⟨gb386, 1, none⟩ (.int .i64 t393))) := ⟨by repeat (first | (with_reducible first | exact HB.out | apply below_alloc | apply pw_below_drewN | apply below_drew1 | refine below_set ?_ GE385.out | refine below_set ?_ GE386.out) | exact HB.out)⟩
 (try clear BK385)
 (try clear BK386)
 (try clear HB)
 generalize ((((w20.setCell ⟨gb385, 0, none⟩ (.int .i64 t390)).setCell ⟨gb385, 1, none⟩ (.int .i64 t391)).setCell ⟨gb386, 0, none⟩ (.int .i64 t392)).setCell ⟨gb386, 1, none⟩ (.int .i64 t393)) = w25 at n0_ n1_ n2_ ⊢
 have BK385 := n0_
 have BK386 := n1_
 have HB := n2_
 clear n0_ n1_ n2_
 replace BK385 := Aside0.mk (blk_drew BK385.out); replace BK386 := Aside0.mk (blk_drew BK386.out); replace HB := Aside0.mk (below_drew1 HB.out)
 refine start_ (n := 11) (S := fun w' => w'.cell? ⟨gb385, 0, none⟩ = some (.int .i64 t390) ∧ w'.cell? ⟨gb385, 1, none⟩ = some (.int .i64 t391) ∧ w'.cell? ⟨gb386, 0, none⟩ = some (.int .i64 t392) ∧ w'.cell? ⟨gb386, 1, none⟩ = some (.int .i64 t393)) (ds := []) #[false, false, false, false, false, false, false, false, false, false, false] (by kernel_rfl) rfl rfl ⟨bc BK385 0 rfl, bc BK385 1 rfl, bc BK386 0 rfl, bc BK386 1 rfl⟩ (fun hHeld => ?_); refine with_tabW avermentlaw10_SpanSets.tab3 avermentlaw10_SpanSets.bits3 (fun HT_ HW_ => ?_)
 generalize w25.drew = w26 at BK385 BK386 HB hHeld ⊢
 refine take_ (i := 0) (N := some 26) (v := ?_) (a' := ?_) #[true, false, false, false, false, false, false, false, false, false, false] rfl rfl (take_ofW HT_.out HW_.out (by kernel_rfl)) (fun _ _ _ h => h) (Or.inl ⟨by rfl, ?_⟩) hHeld ?_ ?_
 rotate_left
 ·
  rintro w' ⟨s0, s1, s2, s3⟩
  go_simp
  with_reducible rfl
 rotate_left
 ·
  simp only [Act.put, List.setIfInBounds_toArray, List.set_cons_zero, List.set_cons_succ, i64_w, i32_w]
  rfl
 refine take_ (i := 2) (N := some 28) (v := ?_) (a' := ?_) #[true, false, true, false, false, false, false, false, false, false, false] rfl rfl (take_ofW HT_.out HW_.out (by kernel_rfl)) (fun _ _ _ h => h) (Or.inl ⟨by rfl, ?_⟩) hHeld ?_ ?_
 rotate_left
 ·
  rintro w' ⟨s0, s1, s2, s3⟩
  go_simp
  with_reducible rfl
 rotate_left
 ·
  simp only [Act.put, List.setIfInBounds_toArray, List.set_cons_zero, List.set_cons_succ, i64_w, i32_w]
  rfl
 refine join_ (σ := Nat) 2 #[true, true, true, true, true, true, true, true, true, false, false] (fun s_ => [(27, .agg #[.int .i64 t394, .int .i64 t395]), (29, .agg #[.int .i64 t396, .int .i64 t397]), (30, .tuple #[.agg #[.int .i64 t398, .int .i64 t399], .bool t400]), (8, .pointer (some ⟨s_, 0, none⟩)), (25, .tuple #[.agg #[.int .i64 t398, .int .i64 t399], .bool t400]), (31, .agg #[.int .i64 t398, .int .i64 t399]), (32, .bool t400)]) (fun s_ w' => (w'.cell? ⟨gb385, 0, none⟩ = some (.int .i64 t390) ∧ w'.cell? ⟨gb385, 1, none⟩ = some (.int .i64 t391) ∧ w'.cell? ⟨gb386, 0, none⟩ = some (.int .i64 t392) ∧ w'.cell? ⟨gb386, 1, none⟩ = some (.int .i64 t393)) ∧ (w'.heap[gb385]? = some (.cells #[.int .i64 t390, .int .i64 t391] 56 (0, 0))) ∧ (w'.heap[gb386]? = some (.cells #[.int .i64 t392, .int .i64 t393] 56 (0, 0))) ∧ (w'.heap[s_]? = some (.cells #[.int .i64 0, .int .i64 0] 59 (0, 0))) ∧ (w.heap.size ≤ s_) ∧ (w.heap.size ≤ s_) ∧ (gb385 ≠ s_) ∧ (s_ ≠ gb385) ∧ (gb386 ≠ s_) ∧ (s_ ≠ gb386) ∧ (Below w.heap.size w w')) ?_ ?_
 rotate_left
 ·
  intro hCont
  refine two_ (i := 1) (j := 8) (Ni := some 27) (Nj := some 8) #[true, true, true, false, false, false, false, false, false, false, false] #[true, false, true, false, false, false, false, false, true, false, false] rfl rfl rfl rfl (two_of HT_.out (by kernel_rfl)) (by decide) (by decide) (fun K hK => ?_) (fun K hK => ?_)
  ·
   skip
   refine goes_ Try.func37 (by kernel_rfl) rfl #[.agg #[.int .i64 t390, .int .i64 t391]] (by rfl) rfl rfl (mapq rfl) ?_
   with_reducible refine (avermentlaw10_To.calls t390 t391 t394 t395 _ A8.out).mono ?_
   rintro e w27 ⟨rfl, hb⟩
   refine ⟨_, rfl, ?_⟩
   replace BK385 := bb BK385 hb rfl; replace BK386 := bb BK386 hb rfl; replace HB := hst HB hb rfl
   (try clear hb)
   refine hK.out _ _ ⟨bc BK385 0 rfl, bc BK385 1 rfl, bc BK386 0 rfl, bc BK386 1 rfl⟩ (fun hHeld => ?_)
   clear hK K
   refine norm_ (a' := ?_) ?_ ?_
   rotate_left; · (show Act.put _ (some 27) _ = _; simp only [Act.put, List.setIfInBounds_toArray, List.set_cons_zero, List.set_cons_succ, i64_w, i32_w]; rfl)
   refine two_ (i := 3) (j := 8) (Ni := some 29) (Nj := some 8) #[true, true, true, true, false, false, false, false, false, false, false] #[true, true, true, false, false, false, false, false, true, false, false] rfl rfl rfl rfl (two_of HT_.out (by kernel_rfl)) (by decide) (by decide) (fun K hK => ?_) (fun K hK => ?_)
   ·
    skip
    refine goes_ Try.func37 (by kernel_rfl) rfl #[.agg #[.int .i64 t392, .int .i64 t393]] (by rfl) rfl rfl (mapq rfl) ?_
    with_reducible refine (avermentlaw10_To.calls t392 t393 t396 t397 _ A9.out).mono ?_
    rintro e w28 ⟨rfl, hb⟩
    refine ⟨_, rfl, ?_⟩
    replace BK385 := bb BK385 hb rfl; replace BK386 := bb BK386 hb rfl; replace HB := hst HB hb rfl
    (try clear hb)
    refine hK.out _ _ ⟨bc BK385 0 rfl, bc BK385 1 rfl, bc BK386 0 rfl, bc BK386 1 rfl⟩ (fun hHeld => ?_)
    clear hK K
    refine norm_ (a' := ?_) ?_ ?_
    rotate_left; · (show Act.put _ (some 29) _ = _; simp only [Act.put, List.setIfInBounds_toArray, List.set_cons_zero, List.set_cons_succ, i64_w, i32_w]; rfl)
    refine two_ (i := 4) (j := 8) (Ni := some 30) (Nj := some 8) #[true, true, true, true, true, false, false, false, false, false, false] #[true, true, true, true, false, false, false, false, true, false, false] rfl rfl rfl rfl (two_of HT_.out (by kernel_rfl)) (by decide) (by decide) (fun K hK => ?_) (fun K hK => ?_)
    ·
     skip
     refine goes_ Try.func43 (by kernel_rfl) rfl #[.agg #[.int .i64 t394, .int .i64 t395], .agg #[.int .i64 t396, .int .i64 t397]] (by rfl) rfl rfl (mapq rfl) ?_
     with_reducible refine (span_Meet.calls t394 t395 t396 t397 t398 t399 t400 _ A10.out).mono ?_
     rintro e w29 ⟨rfl, hb⟩
     refine ⟨_, rfl, ?_⟩
     replace BK385 := bb BK385 hb rfl; replace BK386 := bb BK386 hb rfl; replace HB := hst HB hb rfl
     (try clear hb)
     refine hK.out _ _ ⟨bc BK385 0 rfl, bc BK385 1 rfl, bc BK386 0 rfl, bc BK386 1 rfl⟩ (fun hHeld => ?_)
     clear hK K
     refine norm_ (a' := ?_) ?_ ?_
     rotate_left; · (show Act.put _ (some 30) _ = _; simp only [Act.put, List.setIfInBounds_toArray, List.set_cons_zero, List.set_cons_succ, i64_w, i32_w]; rfl)
     refine pure_ (i := 5) (N := some 25) (v := ?_) (a' := ?_) #[true, true, true, true, true, true, false, false, false, false, false] rfl rfl (any_of HT_.out (by kernel_rfl)) (fun _ _ _ h => h) (Or.inl ⟨by rfl, ?_⟩) ?_ ?_
     rotate_left; · (intro w'; go_simp; with_reducible rfl)
     rotate_left; · (simp only [Act.put, List.setIfInBounds_toArray, List.set_cons_zero, List.set_cons_succ, i64_w, i32_w]; rfl)
     refine pure_ (i := 6) (N := some 31) (v := ?_) (a' := ?_) #[true, true, true, true, true, true, true, false, false, false, false] rfl rfl (any_of HT_.out (by kernel_rfl)) (fun _ _ _ h => h) (Or.inl ⟨by rfl, ?_⟩) ?_ ?_
     rotate_left; · (intro w'; go_simp; with_reducible rfl)
     rotate_left; · (simp only [Act.put, List.setIfInBounds_toArray, List.set_cons_zero, List.set_cons_succ, i64_w, i32_w]; rfl)
     refine pure_ (i := 7) (N := some 32) (v := ?_) (a' := ?_) #[true, true, true, true, true, true, true, true, false, false, false] rfl rfl (any_of HT_.out (by kernel_rfl)) (fun _ _ _ h => h) (Or.inl ⟨by rfl, ?_⟩) ?_ ?_
     rotate_left; · (intro w'; go_simp; with_reducible rfl)
     rotate_left; · (simp only [Act.put, List.setIfInBounds_toArray, List.set_cons_zero, List.set_cons_succ, i64_w, i32_w]; rfl)
     refine one_ (i := 8) (N := some 8) #[true, true, true, true, true, true, true, true, true, false, false] rfl rfl (one_of HT_.out (by kernel_rfl)) (by decide) (fun K hK => ?_)
     refine box_step ?hg (N := 8) ?hd (cs := #[.int .i64 0, .int .i64 0]) (t := 59) ?hr ?_; (case hd => rfl); (case hg => rfl); (case hr => first | (go_simp; done) | (go_simp; rfl))
     intro gb401 hg w30 hbox hb
     have BK401 := Aside0.mk (hbox)
     have GW401 := geb hg HB rfl
     have GE401 := geb hg HB rfl
     have NB385_401 := nbl hg BK385 rfl
     have NB401_385 := nbr hg BK385 rfl
     have NB386_401 := nbl hg BK386 rfl
     have NB401_386 := nbr hg BK386 rfl
     replace BK385 := bb BK385 hb rfl; replace BK386 := bb BK386 hb rfl; replace HB := hst HB hb rfl
     clear hb hbox hg
     refine hK.out _ _ ⟨bc BK385 0 rfl, bc BK385 1 rfl, bc BK386 0 rfl, bc BK386 1 rfl⟩ (fun hHeld => ?_)
     clear hK K
     refine norm_ (a' := ?_) ?_ ?_
     rotate_left; · (show Act.put _ (some 8) _ = _; simp only [Act.put, List.setIfInBounds_toArray, List.set_cons_zero, List.set_cons_succ, i64_w, i32_w]; rfl)
     exact norm_ (by simp only [putAll, Act.put, List.setIfInBounds_toArray, List.set_cons_zero, List.set_cons_succ]) (hCont (gb401) _ ⟨hHeld, BK385.out, BK386.out, BK401.out, GW401.out, GE401.out, NB385_401.out, NB401_385.out, NB386_401.out, NB401_386.out, (by repeat (first | (with_reducible first | exact HB.out | apply below_alloc | apply pw_below_drewN | apply below_drew1 | refine below_set ?_ GE385.out | refine below_set ?_ GE386.out | refine below_set ?_ GE401.out) | exact HB.out))⟩)
    ·
     skip
     refine box_step ?hg (N := 8) ?hd (cs := #[.int .i64 0, .int .i64 0]) (t := 59) ?hr ?_; (case hd => rfl); (case hg => rfl); (case hr => first | (go_simp; done) | (go_simp; rfl))
     intro gb401 hg w29 hbox hb
     have BK401 := Aside0.mk (hbox)
     have GW401 := geb hg HB rfl
     have GE401 := geb hg HB rfl
     have NB385_401 := nbl hg BK385 rfl
     have NB401_385 := nbr hg BK385 rfl
     have NB386_401 := nbl hg BK386 rfl
     have NB401_386 := nbr hg BK386 rfl
     replace BK385 := bb BK385 hb rfl; replace BK386 := bb BK386 hb rfl; replace HB := hst HB hb rfl
     clear hb hbox hg
     refine hK.out _ _ ⟨bc BK385 0 rfl, bc BK385 1 rfl, bc BK386 0 rfl, bc BK386 1 rfl⟩ (fun hHeld => ?_)
     clear hK K
     refine norm_ (a' := ?_) ?_ ?_
     rotate_left; · (show Act.put _ (some 8) _ = _; simp only [Act.put, List.setIfInBounds_toArray, List.set_cons_zero, List.set_cons_succ, i64_w, i32_w]; rfl)
     refine one_ (i := 4) (N := some 30) #[true, true, true, true, true, false, false, false, true, false, false] rfl rfl (one_of HT_.out (by kernel_rfl)) (by decide) (fun K hK => ?_)
     refine goes_ Try.func43 (by kernel_rfl) rfl #[.agg #[.int .i64 t394, .int .i64 t395], .agg #[.int .i64 t396, .int .i64 t397]] (by rfl) rfl rfl (mapq rfl) ?_
     with_reducible refine (span_Meet.calls t394 t395 t396 t397 t398 t399 t400 _ A10.out).mono ?_
     rintro e w30 ⟨rfl, hb⟩
     refine ⟨_, rfl, ?_⟩
     replace BK385 := bb BK385 hb rfl; replace BK386 := bb BK386 hb rfl; replace BK401 := bb BK401 hb rfl; replace HB := hst HB hb rfl
     (try clear hb)
     refine hK.out _ _ ⟨bc BK385 0 rfl, bc BK385 1 rfl, bc BK386 0 rfl, bc BK386 1 rfl⟩ (fun hHeld => ?_)
     clear hK K
     refine norm_ (a' := ?_) ?_ ?_
     rotate_left; · (show Act.put _ (some 30) _ = _; simp only [Act.put, List.setIfInBounds_toArray, List.set_cons_zero, List.set_cons_succ, i64_w, i32_w]; rfl)
     refine pure_ (i := 5) (N := some 25) (v := ?_) (a' := ?_) #[true, true, true, true, true, true, false, false, true, false, false] rfl rfl (any_of HT_.out (by kernel_rfl)) (fun _ _ _ h => h) (Or.inl ⟨by rfl, ?_⟩) ?_ ?_
     rotate_left; · (intro w'; go_simp; with_reducible rfl)
     rotate_left; · (simp only [Act.put, List.setIfInBounds_toArray, List.set_cons_zero, List.set_cons_succ, i64_w, i32_w]; rfl)
     refine pure_ (i := 6) (N := some 31) (v := ?_) (a' := ?_) #[true, true, true, true, true, true, true, false, true, false, false] rfl rfl (any_of HT_.out (by kernel_rfl)) (fun _ _ _ h => h) (Or.inl ⟨by rfl, ?_⟩) ?_ ?_
     rotate_left; · (intro w'; go_simp; with_reducible rfl)
     rotate_left; · (simp only [Act.put, List.setIfInBounds_toArray, List.set_cons_zero, List.set_cons_succ, i64_w, i32_w]; rfl)
     refine pure_ (i := 7) (N := some 32) (v := ?_) (a' := ?_) #[true, true, true, true, true, true, true, true, true, false, false] rfl rfl (any_of HT_.out (by kernel_rfl)) (fun _ _ _ h => h) (Or.inl ⟨by rfl, ?_⟩) ?_ ?_
     rotate_left; · (intro w'; go_simp; with_reducible rfl)
     rotate_left; · (simp only [Act.put, List.setIfInBounds_toArray, List.set_cons_zero, List.set_cons_succ, i64_w, i32_w]; rfl)
     exact norm_ (by simp only [putAll, Act.put, List.setIfInBounds_toArray, List.set_cons_zero, List.set_cons_succ]) (hCont (gb401) _ ⟨hHeld, BK385.out, BK386.out, BK401.out, GW401.out, GE401.out, NB385_401.out, NB401_385.out, NB386_401.out, NB401_386.out, (by repeat (first | (with_reducible first | exact HB.out | apply below_alloc | apply pw_below_drewN | apply below_drew1 | refine below_set ?_ GE385.out | refine below_set ?_ GE386.out | refine below_set ?_ GE401.out) | exact HB.out))⟩)
   ·
    skip
    refine box_step ?hg (N := 8) ?hd (cs := #[.int .i64 0, .int .i64 0]) (t := 59) ?hr ?_; (case hd => rfl); (case hg => rfl); (case hr => first | (go_simp; done) | (go_simp; rfl))
    intro gb401 hg w28 hbox hb
    have BK401 := Aside0.mk (hbox)
    have GW401 := geb hg HB rfl
    have GE401 := geb hg HB rfl
    have NB385_401 := nbl hg BK385 rfl
    have NB401_385 := nbr hg BK385 rfl
    have NB386_401 := nbl hg BK386 rfl
    have NB401_386 := nbr hg BK386 rfl
    replace BK385 := bb BK385 hb rfl; replace BK386 := bb BK386 hb rfl; replace HB := hst HB hb rfl
    clear hb hbox hg
    refine hK.out _ _ ⟨bc BK385 0 rfl, bc BK385 1 rfl, bc BK386 0 rfl, bc BK386 1 rfl⟩ (fun hHeld => ?_)
    clear hK K
    refine norm_ (a' := ?_) ?_ ?_
    rotate_left; · (show Act.put _ (some 8) _ = _; simp only [Act.put, List.setIfInBounds_toArray, List.set_cons_zero, List.set_cons_succ, i64_w, i32_w]; rfl)
    refine one_ (i := 3) (N := some 29) #[true, true, true, true, false, false, false, false, true, false, false] rfl rfl (one_of HT_.out (by kernel_rfl)) (by decide) (fun K hK => ?_)
    refine goes_ Try.func37 (by kernel_rfl) rfl #[.agg #[.int .i64 t392, .int .i64 t393]] (by rfl) rfl rfl (mapq rfl) ?_
    with_reducible refine (avermentlaw10_To.calls t392 t393 t396 t397 _ A9.out).mono ?_
    rintro e w29 ⟨rfl, hb⟩
    refine ⟨_, rfl, ?_⟩
    replace BK385 := bb BK385 hb rfl; replace BK386 := bb BK386 hb rfl; replace BK401 := bb BK401 hb rfl; replace HB := hst HB hb rfl
    (try clear hb)
    refine hK.out _ _ ⟨bc BK385 0 rfl, bc BK385 1 rfl, bc BK386 0 rfl, bc BK386 1 rfl⟩ (fun hHeld => ?_)
    clear hK K
    refine norm_ (a' := ?_) ?_ ?_
    rotate_left; · (show Act.put _ (some 29) _ = _; simp only [Act.put, List.setIfInBounds_toArray, List.set_cons_zero, List.set_cons_succ, i64_w, i32_w]; rfl)
    refine one_ (i := 4) (N := some 30) #[true, true, true, true, true, false, false, false, true, false, false] rfl rfl (one_of HT_.out (by kernel_rfl)) (by decide) (fun K hK => ?_)
    refine goes_ Try.func43 (by kernel_rfl) rfl #[.agg #[.int .i64 t394, .int .i64 t395], .agg #[.int .i64 t396, .int .i64 t397]] (by rfl) rfl rfl (mapq rfl) ?_
    with_reducible refine (span_Meet.calls t394 t395 t396 t397 t398 t399 t400 _ A10.out).mono ?_
    rintro e w30 ⟨rfl, hb⟩
    refine ⟨_, rfl, ?_⟩
    replace BK385 := bb BK385 hb rfl; replace BK386 := bb BK386 hb rfl; replace BK401 := bb BK401 hb rfl; replace HB := hst HB hb rfl
    (try clear hb)
    refine hK.out _ _ ⟨bc BK385 0 rfl, bc BK385 1 rfl, bc BK386 0 rfl, bc BK386 1 rfl⟩ (fun hHeld => ?_)
    clear hK K
    refine norm_ (a' := ?_) ?_ ?_
    rotate_left; · (show Act.put _ (some 30) _ = _; simp only [Act.put, List.setIfInBounds_toArray, List.set_cons_zero, List.set_cons_succ, i64_w, i32_w]; rfl)
    refine pure_ (i := 5) (N := some 25) (v := ?_) (a' := ?_) #[true, true, true, true, true, true, false, false, true, false, false] rfl rfl (any_of HT_.out (by kernel_rfl)) (fun _ _ _ h => h) (Or.inl ⟨by rfl, ?_⟩) ?_ ?_
    rotate_left; · (intro w'; go_simp; with_reducible rfl)
    rotate_left; · (simp only [Act.put, List.setIfInBounds_toArray, List.set_cons_zero, List.set_cons_succ, i64_w, i32_w]; rfl)
    refine pure_ (i := 6) (N := some 31) (v := ?_) (a' := ?_) #[true, true, true, true, true, true, true, false, true, false, false] rfl rfl (any_of HT_.out (by kernel_rfl)) (fun _ _ _ h => h) (Or.inl ⟨by rfl, ?_⟩) ?_ ?_
    rotate_left; · (intro w'; go_simp; with_reducible rfl)
    rotate_left; · (simp only [Act.put, List.setIfInBounds_toArray, List.set_cons_zero, List.set_cons_succ, i64_w, i32_w]; rfl)
    refine pure_ (i := 7) (N := some 32) (v := ?_) (a' := ?_) #[true, true, true, true, true, true, true, true, true, false, false] rfl rfl (any_of HT_.out (by kernel_rfl)) (fun _ _ _ h => h) (Or.inl ⟨by rfl, ?_⟩) ?_ ?_
    rotate_left; · (intro w'; go_simp; with_reducible rfl)
    rotate_left; · (simp only [Act.put, List.setIfInBounds_toArray, List.set_cons_zero, List.set_cons_succ, i64_w, i32_w]; rfl)
    exact norm_ (by simp only [putAll, Act.put, List.setIfInBounds_toArray, List.set_cons_zero, List.set_cons_succ]) (hCont (gb401) _ ⟨hHeld, BK385.out, BK386.out, BK401.out, GW401.out, GE401.out, NB385_401.out, NB401_385.out, NB386_401.out, NB401_386.out, (by repeat (first | (with_reducible first | exact HB.out | apply below_alloc | apply pw_below_drewN | apply below_drew1 | refine below_set ?_ GE385.out | refine below_set ?_ GE386.out | refine below_set ?_ GE401.out) | exact HB.out))⟩)
  ·
   skip
   refine box_step ?hg (N := 8) ?hd (cs := #[.int .i64 0, .int .i64 0]) (t := 59) ?hr ?_; (case hd => rfl); (case hg => rfl); (case hr => first | (go_simp; done) | (go_simp; rfl))
   intro gb401 hg w27 hbox hb
   have BK401 := Aside0.mk (hbox)
   have GW401 := geb hg HB rfl
   have GE401 := geb hg HB rfl
   have NB385_401 := nbl hg BK385 rfl
   have NB401_385 := nbr hg BK385 rfl
   have NB386_401 := nbl hg BK386 rfl
   have NB401_386 := nbr hg BK386 rfl
   replace BK385 := bb BK385 hb rfl; replace BK386 := bb BK386 hb rfl; replace HB := hst HB hb rfl
   clear hb hbox hg
   refine hK.out _ _ ⟨bc BK385 0 rfl, bc BK385 1 rfl, bc BK386 0 rfl, bc BK386 1 rfl⟩ (fun hHeld => ?_)
   clear hK K
   refine norm_ (a' := ?_) ?_ ?_
   rotate_left; · (show Act.put _ (some 8) _ = _; simp only [Act.put, List.setIfInBounds_toArray, List.set_cons_zero, List.set_cons_succ, i64_w, i32_w]; rfl)
   refine one_ (i := 1) (N := some 27) #[true, true, true, false, false, false, false, false, true, false, false] rfl rfl (one_of HT_.out (by kernel_rfl)) (by decide) (fun K hK => ?_)
   refine goes_ Try.func37 (by kernel_rfl) rfl #[.agg #[.int .i64 t390, .int .i64 t391]] (by rfl) rfl rfl (mapq rfl) ?_
   with_reducible refine (avermentlaw10_To.calls t390 t391 t394 t395 _ A8.out).mono ?_
   rintro e w28 ⟨rfl, hb⟩
   refine ⟨_, rfl, ?_⟩
   replace BK385 := bb BK385 hb rfl; replace BK386 := bb BK386 hb rfl; replace BK401 := bb BK401 hb rfl; replace HB := hst HB hb rfl
   (try clear hb)
   refine hK.out _ _ ⟨bc BK385 0 rfl, bc BK385 1 rfl, bc BK386 0 rfl, bc BK386 1 rfl⟩ (fun hHeld => ?_)
   clear hK K
   refine norm_ (a' := ?_) ?_ ?_
   rotate_left; · (show Act.put _ (some 27) _ = _; simp only [Act.put, List.setIfInBounds_toArray, List.set_cons_zero, List.set_cons_succ, i64_w, i32_w]; rfl)
   refine one_ (i := 3) (N := some 29) #[true, true, true, true, false, false, false, false, true, false, false] rfl rfl (one_of HT_.out (by kernel_rfl)) (by decide) (fun K hK => ?_)
   refine goes_ Try.func37 (by kernel_rfl) rfl #[.agg #[.int .i64 t392, .int .i64 t393]] (by rfl) rfl rfl (mapq rfl) ?_
   with_reducible refine (avermentlaw10_To.calls t392 t393 t396 t397 _ A9.out).mono ?_
   rintro e w29 ⟨rfl, hb⟩
   refine ⟨_, rfl, ?_⟩
   replace BK385 := bb BK385 hb rfl; replace BK386 := bb BK386 hb rfl; replace BK401 := bb BK401 hb rfl; replace HB := hst HB hb rfl
   (try clear hb)
   refine hK.out _ _ ⟨bc BK385 0 rfl, bc BK385 1 rfl, bc BK386 0 rfl, bc BK386 1 rfl⟩ (fun hHeld => ?_)
   clear hK K
   refine norm_ (a' := ?_) ?_ ?_
   rotate_left; · (show Act.put _ (some 29) _ = _; simp only [Act.put, List.setIfInBounds_toArray, List.set_cons_zero, List.set_cons_succ, i64_w, i32_w]; rfl)
   refine one_ (i := 4) (N := some 30) #[true, true, true, true, true, false, false, false, true, false, false] rfl rfl (one_of HT_.out (by kernel_rfl)) (by decide) (fun K hK => ?_)
   refine goes_ Try.func43 (by kernel_rfl) rfl #[.agg #[.int .i64 t394, .int .i64 t395], .agg #[.int .i64 t396, .int .i64 t397]] (by rfl) rfl rfl (mapq rfl) ?_
   with_reducible refine (span_Meet.calls t394 t395 t396 t397 t398 t399 t400 _ A10.out).mono ?_
   rintro e w30 ⟨rfl, hb⟩
   refine ⟨_, rfl, ?_⟩
   replace BK385 := bb BK385 hb rfl; replace BK386 := bb BK386 hb rfl; replace BK401 := bb BK401 hb rfl; replace HB := hst HB hb rfl
   (try clear hb)
   refine hK.out _ _ ⟨bc BK385 0 rfl, bc BK385 1 rfl, bc BK386 0 rfl, bc BK386 1 rfl⟩ (fun hHeld => ?_)
   clear hK K
   refine norm_ (a' := ?_) ?_ ?_
   rotate_left; · (show Act.put _ (some 30) _ = _; simp only [Act.put, List.setIfInBounds_toArray, List.set_cons_zero, List.set_cons_succ, i64_w, i32_w]; rfl)
   refine pure_ (i := 5) (N := some 25) (v := ?_) (a' := ?_) #[true, true, true, true, true, true, false, false, true, false, false] rfl rfl (any_of HT_.out (by kernel_rfl)) (fun _ _ _ h => h) (Or.inl ⟨by rfl, ?_⟩) ?_ ?_
   rotate_left; · (intro w'; go_simp; with_reducible rfl)
   rotate_left; · (simp only [Act.put, List.setIfInBounds_toArray, List.set_cons_zero, List.set_cons_succ, i64_w, i32_w]; rfl)
   refine pure_ (i := 6) (N := some 31) (v := ?_) (a' := ?_) #[true, true, true, true, true, true, true, false, true, false, false] rfl rfl (any_of HT_.out (by kernel_rfl)) (fun _ _ _ h => h) (Or.inl ⟨by rfl, ?_⟩) ?_ ?_
   rotate_left; · (intro w'; go_simp; with_reducible rfl)
   rotate_left; · (simp only [Act.put, List.setIfInBounds_toArray, List.set_cons_zero, List.set_cons_succ, i64_w, i32_w]; rfl)
   refine pure_ (i := 7) (N := some 32) (v := ?_) (a' := ?_) #[true, true, true, true, true, true, true, true, true, false, false] rfl rfl (any_of HT_.out (by kernel_rfl)) (fun _ _ _ h => h) (Or.inl ⟨by rfl, ?_⟩) ?_ ?_
   rotate_left; · (intro w'; go_simp; with_reducible rfl)
   rotate_left; · (simp only [Act.put, List.setIfInBounds_toArray, List.set_cons_zero, List.set_cons_succ, i64_w, i32_w]; rfl)
   exact norm_ (by simp only [putAll, Act.put, List.setIfInBounds_toArray, List.set_cons_zero, List.set_cons_succ]) (hCont (gb401) _ ⟨hHeld, BK385.out, BK386.out, BK401.out, GW401.out, GE401.out, NB385_401.out, NB401_385.out, NB386_401.out, NB401_386.out, (by repeat (first | (with_reducible first | exact HB.out | apply below_alloc | apply pw_below_drewN | apply below_drew1 | refine below_set ?_ GE385.out | refine below_set ?_ GE386.out | refine below_set ?_ GE401.out) | exact HB.out))⟩)
 rintro gb401 w31 ⟨hS_, h0_, h1_, h2_, h3_, h4_, h5_, h6_, h7_, h8_, h9_⟩
 have n0_ : Aside0 (w31.heap[gb385]? = some (.cells #[.int .i64 t390, .int .i64 t391] 56 (0, 0))) := ⟨h0_⟩
 have n1_ : Aside0 (w31.heap[gb386]? = some (.cells #[.int .i64 t392, .int .i64 t393] 56 (0, 0))) := ⟨h1_⟩
 have n2_ : Aside0 (w31.heap[gb401]? = some (.cells #[.int .i64 0, .int .i64 0] 59 (0, 0))) := ⟨h2_⟩
 have n3_ : Aside0 (w.heap.size ≤ gb401) := ⟨h3_⟩
 have n4_ : Aside0 (w.heap.size ≤ gb401) := ⟨h4_⟩
 have n5_ : Aside0 (gb385 ≠ gb401) := ⟨h5_⟩
 have n6_ : Aside0 (gb401 ≠ gb385) := ⟨h6_⟩
 have n7_ : Aside0 (gb386 ≠ gb401) := ⟨h7_⟩
 have n8_ : Aside0 (gb401 ≠ gb386) := ⟨h8_⟩
 have n9_ : Aside0 (Below w.heap.size w w31) := ⟨h9_⟩
 clear BK385
 clear BK386
 clear HB
 clear h0_ h1_ h2_ h3_ h4_ h5_ h6_ h7_ h8_ h9_
 have BK385 := n0_
 have BK386 := n1_
 have BK401 := n2_
 have GW401 := n3_
 have GE401 := n4_
 have NB385_401 := n5_
 have NB401_385 := n6_
 have NB386_401 := n7_
 have NB401_386 := n8_
 have HB := n9_
 clear n0_ n1_ n2_ n3_ n4_ n5_ n6_ n7_ n8_ n9_
 have hHeld : w31.cell? ⟨gb385, 0, none⟩ = some (.int .i64 t390) ∧ w31.cell? ⟨gb385, 1, none⟩ = some (.int .i64 t391) ∧ w31.cell? ⟨gb386, 0, none⟩ = some (.int .i64 t392) ∧ w31.cell? ⟨gb386, 1, none⟩ = some (.int .i64 t393) := hS_
 refine norm_ (a' := ?_) ?_ ?_
 rotate_left
 ·
  simp only [putAll, Act.put, List.setIfInBounds_toArray, List.set_cons_zero, List.set_cons_succ]
  rfl
 refine one_ (i := 9) (N := none) #[true, true, true, true, true, true, true, true, true, true, false] rfl rfl (one_of HT_.out (by kernel_rfl)) (by decide) (fun K hK => ?_)
 have hs32 : w31.cell? ⟨gb401, 0, none⟩ = some (.int .i64 0) := bc BK401 0 rfl
 have hfs32 := blk_frozen BK401.out 0
 have hns32_0 := NB385_401.out
 have hns32_1 := NB386_401.out
 have hms32_0 := NB401_385.out
 have hms32_1 := NB401_386.out
 have hs33 : w31.cell? ⟨gb401, 1, none⟩ = some (.int .i64 0) := bc BK401 1 rfl
 have hfs33 := blk_frozen BK401.out 1
 have hns33_0 := NB385_401.out
 have hns33_1 := NB386_401.out
 have hms33_0 := NB401_385.out
 have hms33_1 := NB401_386.out
 refine skip_ (w1 := ?_) (by rfl) rfl ?_ ?_
 rotate_left
 ·
  go_simp
  rfl
 refine hK.out _ _ ⟨((cell_far (p := ⟨gb401, _, none⟩) NB385_401.out _).trans (((cell_far (p := ⟨gb401, _, none⟩) NB385_401.out _).trans (hHeld.1)))), ((cell_far (p := ⟨gb401, _, none⟩) NB385_401.out _).trans (((cell_far (p := ⟨gb401, _, none⟩) NB385_401.out _).trans (hHeld.2.1)))), ((cell_far (p := ⟨gb401, _, none⟩) NB386_401.out _).trans (((cell_far (p := ⟨gb401, _, none⟩) NB386_401.out _).trans (hHeld.2.2.1)))), ((cell_far (p := ⟨gb401, _, none⟩) NB386_401.out _).trans (((cell_far (p := ⟨gb401, _, none⟩) NB386_401.out _).trans (hHeld.2.2.2))))⟩ (fun hHeld => ?_)
 clear hK K
 refine pure_ (i := 10) (N := some 9) (v := ?_) (a' := ?_) #[true, true, true, true, true, true, true, true, true, true, true] rfl rfl (any_of HT_.out (by kernel_rfl)) (fun _ _ _ h => h) (Or.inl ⟨by rfl, ?_⟩) ?_ ?_
 rotate_left; · (intro w'; go_simp; with_reducible rfl)
 rotate_left; · (simp only [Act.put, List.setIfInBounds_toArray, List.set_cons_zero, List.set_cons_succ, i64_w, i32_w]; rfl)
 refine done_ (done_of HT_.out (by kernel_rfl)) ?_
 have hnb34 := NB385_386.out
 have hnc34 := NB386_385.out
 have hnb35 := NB385_401.out
 have hnc35 := NB401_385.out
 have hcz36_0 : w31.cell? ⟨gb385, 0, none⟩ = some (.int .i64 t390) := bc BK385 0 rfl
 have hcz36_1 : w31.cell? ⟨gb385, 1, none⟩ = some (.int .i64 t391) := bc BK385 1 rfl
 have hfz36_0 := blk_frozen BK385.out 0
 have hfz36_1 := blk_frozen BK385.out 1
 have hnb37 := NB386_401.out
 have hnc37 := NB401_386.out
 have hcz38_0 : w31.cell? ⟨gb386, 0, none⟩ = some (.int .i64 t392) := bc BK386 0 rfl
 have hcz38_1 : w31.cell? ⟨gb386, 1, none⟩ = some (.int .i64 t393) := bc BK386 1 rfl
 have hfz38_0 := blk_frozen BK386.out 0
 have hfz38_1 := blk_frozen BK386.out 1
 go_upto_region 5 with (first | ((with_reducible refine gate_callee (f := 44) rfl ?_); refine goesL_ (some 36) rfl rfl Try.func44 (by kernel_rfl) rfl #[.agg #[.int .i64 t390, .int .i64 t391], .agg #[.int .i64 t392, .int .i64 t393]] rfl (mapq rfl) ?_; (with_reducible refine (avermentref10_Meet.calls t390 t391 t392 t393 t402 t403 t404 _ A11.out).mono ?_); rintro e w39 ⟨rfl, hb⟩; refine ⟨_, rfl, ?_⟩; replace BK385 := Aside0.mk (blk_below (g := gb385) (o := .cells #[.int .i64 t390, .int .i64 t391] 56 (0, 0)) (by (with_reducible repeat (first | refine blk_drewN ?_ _ | refine blk_drew ?_ | refine blk_alloc ?_ _)); refine blk_far ?_ NB385_401.out _; (with_reducible repeat (first | refine blk_drewN ?_ _ | refine blk_drew ?_ | refine blk_alloc ?_ _)); refine blk_far ?_ NB385_401.out _; (with_reducible repeat (first | refine blk_drewN ?_ _ | refine blk_drew ?_ | refine blk_alloc ?_ _)); exact BK385.out) hb); replace BK386 := Aside0.mk (blk_below (g := gb386) (o := .cells #[.int .i64 t392, .int .i64 t393] 56 (0, 0)) (by (with_reducible repeat (first | refine blk_drewN ?_ _ | refine blk_drew ?_ | refine blk_alloc ?_ _)); refine blk_far ?_ NB386_401.out _; (with_reducible repeat (first | refine blk_drewN ?_ _ | refine blk_drew ?_ | refine blk_alloc ?_ _)); refine blk_far ?_ NB386_401.out _; (with_reducible repeat (first | refine blk_drewN ?_ _ | refine blk_drew ?_ | refine blk_alloc ?_ _)); exact BK386.out) hb); replace BK401 := Aside0.mk (blk_below (g := gb401) (o := .cells #[.int .i64 t398, .int .i64 t399] 59 (0, 0)) (by (with_reducible repeat (first | refine blk_drewN ?_ _ | refine blk_drew ?_ | refine blk_alloc ?_ _)); refine blk_put (cs := #[.int .i64 t398, .int .i64 0]) ?_ 1 _ rfl; (with_reducible repeat (first | refine blk_drewN ?_ _ | refine blk_drew ?_ | refine blk_alloc ?_ _)); refine blk_put (cs := #[.int .i64 0, .int .i64 0]) ?_ 0 _ rfl; (with_reducible repeat (first | refine blk_drewN ?_ _ | refine blk_drew ?_ | refine blk_alloc ?_ _)); exact BK401.out) hb); replace HB := Aside0.mk (below_step (by repeat (first | (with_reducible first | exact HB.out | apply below_alloc | apply pw_below_drewN | apply below_drew1 | refine below_set ?_ GE385.out | refine below_set ?_ GE386.out | refine below_set ?_ GE401.out) | exact HB.out)) hb); (try clear hb)) | ((with_reducible refine gate_dst (N := 10) rfl ?_); refine box_event ?hg (N := 10) ?hd (cs := #[.int .i64 0, .int .i64 0]) (t := 56) ?hr ?_; (case hd => rfl); (case hg => rfl); (case hr => first | (go_simp; done) | (go_simp; rfl)); intro gb405 hg w40 hbox hb; have BK405 := Aside0.mk (hbox); have GW405 := geb hg HB rfl; have GE405 := geb hg HB rfl; have NB385_405 := nbl hg BK385 rfl; have NB405_385 := nbr hg BK385 rfl; have NB386_405 := nbl hg BK386 rfl; have NB405_386 := nbr hg BK386 rfl; have NB401_405 := nbl hg BK401 rfl; have NB405_401 := nbr hg BK401 rfl; replace BK385 := bb BK385 hb rfl; replace BK386 := bb BK386 hb rfl; replace BK401 := bb BK401 hb rfl; replace HB := hst HB hb rfl; clear hb hbox hg; have hnb41 := NB405_385.out; have hnc41 := NB385_405.out; have hnb42 := NB405_386.out; have hnc42 := NB386_405.out; have hnb43 := NB405_401.out; have hnc43 := NB401_405.out; have hcz44_0 : w40.cell? ⟨gb405, 0, none⟩ = some (.int .i64 0) := (blk_cell BK405.out 0).trans rfl; have hcz44_1 : w40.cell? ⟨gb405, 1, none⟩ = some (.int .i64 0) := (blk_cell BK405.out 1).trans rfl; have hfz44_0 := blk_frozen BK405.out 0; have hfz44_1 := blk_frozen BK405.out 1))
 (try simp only [Act.put, List.setIfInBounds_toArray, List.set_cons_zero, List.set_cons_succ])
 go_cut [55] (fun v55 wc => ∃ (kq : Nat) (x55_11 : Bool), v55 = .bool x55_11 ∧ Aside0 (avermentlaw10_SpanSets.j0 kq a2 x55_11 t390 t391 t392 t393 = some r) ∧ Aside0 (kq ≤ k) ∧ Aside0 (wc.heap[gb385]? = some (.cells #[.int .i64 t390, .int .i64 t391] 56 (0, 0))) ∧ Aside0 (wc.heap[gb386]? = some (.cells #[.int .i64 t392, .int .i64 t393] 56 (0, 0))) ∧ Aside0 (wc.heap[gb401]? = some (.cells #[.int .i64 t398, .int .i64 t399] 59 (0, 0))) ∧ Aside0 (wc.heap[gb405]? = some (.cells #[.int .i64 t402, .int .i64 t403] 56 (0, 0))) ∧ Aside0 (Below w.heap.size w wc))
 case first =>
  have H := HC12.out
  clear HC12
  replace H := Option.bind_eq_some_iff.mp H
  obtain ⟨t406, A450, H⟩ := H
  (try dsimp only at H)
  have A45 := Aside0.mk A450
  clear A450
  by_cases c46 : t406 = true
  ·
   subst c46
   rw [if_pos rfl] at H
   by_cases c47 : ((t389 == (decide (a0_0 ≤ a0_1))) = true)
   ·
    rw [if_pos c47] at H
    have c47b0 : (t389 == (decide (a0_0 ≤ a0_1))) = true := c47
    (try (have c47b1 : decide (t389 = (decide (a0_0 ≤ a0_1))) = true := by simpa using c47))
    (try (have c47b2 : (t389 == (decide (a0_0 ≤ a0_1))) = true := by simpa using c47))
    clear c47
    (first | rw [c47b0] | (simp only [i64_w, i32_w]; rw [c47b0]) | skip)
    replace H := Option.bind_eq_some_iff.mp H
    obtain ⟨⟨t407, t408⟩, A480, H⟩ := H
    (try dsimp only at H)
    have A48 := Aside0.mk A480
    clear A480
    by_cases c49 : (!(t407 == t402) || (!(t408 == t403))) = true
    ·
     rw [if_pos c49] at H
     have c49b0 : (!(t407 == t402) || (!(t408 == t403))) = true := c49
     clear c49
     have H' := Aside0.mk H
     clear H
     try go_wp2
     have n0_ : Aside0 (((w40.setCell ⟨gb405, 0, none⟩ (.int .i64 t402)).setCell ⟨gb405, 1, none⟩ (.int .i64 t403)).heap[gb385]? = some (.cells #[.int .i64 t390, .int .i64 t391] 56 (0, 0))) := ⟨by (with_reducible repeat (first | refine blk_drewN ?_ _ | refine blk_drew ?_ | refine blk_alloc ?_ _)); refine blk_far ?_ NB385_405.out _; (with_reducible repeat (first | refine blk_drewN ?_ _ | refine blk_drew ?_ | refine blk_alloc ?_ _)); refine blk_far ?_ NB385_405.out _; (with_reducible repeat (first | refine blk_drewN ?_ _ | refine blk_drew ?_ | refine blk_alloc ?_ _)); exact BK385.out⟩
     have n1_ : Aside0 (((w40.setCell ⟨gb405, 0, none⟩ (.int .i64 t402)).setCell ⟨gb405, 1, none⟩ (.int .i64 t403)).heap[gb386]? = some (.cells #[.int .i64 t392, .int .i64 t393] 56 (0, 0))) := ⟨by (with_reducible repeat (first | refine blk_drewN ?_ _ | refine blk_drew ?_ | refine blk_alloc ?_ _)); refine blk_far ?_ NB386_405.out _; (with_reducible repeat (first | refine blk_drewN ?_ _ | refine blk_drew ?_ | refine blk_alloc ?_ _)); refine blk_far ?_ NB386_405.out _; (with_reducible repeat (first | refine blk_drewN ?_ _ | refine blk_drew ?_ | refine blk_alloc ?_ _)); exact BK386.out⟩
     have n2_ : Aside0 (((w40.setCell ⟨gb405, 0, none⟩ (.int .i64 t402)).setCell ⟨gb405, 1, none⟩ (.int .i64 t403)).heap[gb401]? = some (.cells #[.int .i64 t398, .int .i64 t399] 59 (0, 0))) := ⟨by (with_reducible repeat (first | refine blk_drewN ?_ _ | refine blk_drew ?_ | refine blk_alloc ?_ _)); refine blk_far ?_ NB401_405.out _; (with_reducible repeat (first | refine blk_drewN ?_ _ | refine blk_drew ?_ | refine blk_alloc ?_ _)); refine blk_far ?_ NB401_405.out _; (with_reducible repeat (first | refine blk_drewN ?_ _ | refine blk_drew ?_ | refine blk_alloc ?_ _)); exact BK401.out⟩
     have n3_ : Aside0 (((w40.setCell ⟨gb405, 0, none⟩ (.int .i64 t402)).setCell ⟨gb405, 1, none⟩ (.int .i64 t403)).heap[gb405]? = some (.cells #[.int .i64 t402, .int .i64 t403] 56 (0, 0))) := ⟨by (with_reducible repeat (first | refine blk_drewN ?_ _ | refine blk_drew ?_ | refine blk_alloc ?_ _)); refine blk_put (cs := #[.int .i64 t402, .int .i64 0]) ?_ 1 _ rfl; (with_reducible repeat (first | refine blk_drewN ?_ _ | refine blk_drew ?_ | refine blk_alloc ?_ _)); refine blk_put (cs := #[.int .i64 0, .int .i64 0]) ?_ 0 _ rfl; (with_reducible repeat (first | refine blk_drewN ?_ _ | refine blk_drew ?_ | refine blk_alloc ?_ _)); exact BK405.out⟩
     have n4_ : Aside0 (Below w.heap.size w ((w40.setCell ⟨gb405, 0, none⟩ (.int .i64 t402)).setCell ⟨gb405, 1, none⟩ (.int .i64 t403))) := ⟨by repeat (first | (with_reducible first | exact HB.out | apply below_alloc | apply pw_below_drewN | apply below_drew1 | refine below_set ?_ GE385.out | refine below_set ?_ GE386.out | refine below_set ?_ GE401.out | refine below_set ?_ GE405.out) | exact HB.out)⟩
     (try clear BK385)
     (try clear BK386)
     (try clear BK401)
     (try clear BK405)
     (try clear HB)
     generalize ((w40.setCell ⟨gb405, 0, none⟩ (.int .i64 t402)).setCell ⟨gb405, 1, none⟩ (.int .i64 t403)) = w50 at n0_ n1_ n2_ n3_ n4_ ⊢
     have BK385 := n0_
     have BK386 := n1_
     have BK401 := n2_
     have BK405 := n3_
     have HB := n4_
     clear n0_ n1_ n2_ n3_ n4_
     replace BK385 := Aside0.mk (blk_drew BK385.out); replace BK386 := Aside0.mk (blk_drew BK386.out); replace BK401 := Aside0.mk (blk_drew BK401.out); replace BK405 := Aside0.mk (blk_drew BK405.out); replace HB := Aside0.mk (below_drew1 HB.out)
     refine start_ (n := 17) (S := fun w' => w'.cell? ⟨gb401, 0, none⟩ = some (.int .i64 t398) ∧ w'.cell? ⟨gb401, 1, none⟩ = some (.int .i64 t399) ∧ w'.cell? ⟨gb405, 0, none⟩ = some (.int .i64 t402) ∧ w'.cell? ⟨gb405, 1, none⟩ = some (.int .i64 t403)) (ds := []) #[false, false, false, false, false, false, false, false, false, false, false, false, false, false, false, false, false] (by kernel_rfl) rfl rfl ⟨bc BK401 0 rfl, bc BK401 1 rfl, bc BK405 0 rfl, bc BK405 1 rfl⟩ (fun hHeld => ?_); refine with_tabW avermentlaw10_SpanSets.tab5 avermentlaw10_SpanSets.bits5 (fun HT_ HW_ => ?_)
     generalize w50.drew = w51 at BK385 BK386 BK401 BK405 HB hHeld ⊢
     refine one_ (i := 0) (N := some 39) #[true, false, false, false, false, false, false, false, false, false, false, false, false, false, false, false, false] rfl rfl (one_of HT_.out (by kernel_rfl)) (by decide) (fun K hK => ?_)
     refine goes_ Try.func38 (by kernel_rfl) rfl #[] (by rfl) rfl rfl (mapq rfl) ?_
     with_reducible refine (avermentlaw10_told.calls k  true _ A45.out).mono ?_
     rintro e w52 ⟨rfl, hb⟩
     refine ⟨_, rfl, ?_⟩
     replace BK385 := bb BK385 hb rfl; replace BK386 := bb BK386 hb rfl; replace BK401 := bb BK401 hb rfl; replace BK405 := bb BK405 hb rfl; replace HB := hst HB hb rfl
     (try clear hb)
     refine hK.out _ _ ⟨bc BK401 0 rfl, bc BK401 1 rfl, bc BK405 0 rfl, bc BK405 1 rfl⟩ (fun hHeld => ?_)
     clear hK K
     refine norm_ (a' := ?_) ?_ ?_
     rotate_left; · (show Act.put _ (some 39) _ = _; simp only [Act.put, List.setIfInBounds_toArray, List.set_cons_zero, List.set_cons_succ, i64_w, i32_w]; rfl)
     refine pure_ (i := 1) (N := some 40) (v := ?_) (a' := ?_) #[true, true, false, false, false, false, false, false, false, false, false, false, false, false, false, false, false] rfl rfl (any_of HT_.out (by kernel_rfl)) (fun _ _ _ h => h) (Or.inl ⟨by rfl, ?_⟩) ?_ ?_
     rotate_left; · (intro w'; go_simp; with_reducible rfl)
     rotate_left; · (simp only [Act.put, List.setIfInBounds_toArray, List.set_cons_zero, List.set_cons_succ, i64_w, i32_w]; rfl)
     refine pure_ (i := 2) (N := some 41) (v := ?_) (a' := ?_) #[true, true, true, false, false, false, false, false, false, false, false, false, false, false, false, false, false] rfl rfl (any_of HT_.out (by kernel_rfl)) (fun _ _ _ h => h) (Or.inl ⟨by rfl, ?_⟩) ?_ ?_
     rotate_left; · (intro w'; go_simp; with_reducible rfl)
     rotate_left; · (simp only [Act.put, List.setIfInBounds_toArray, List.set_cons_zero, List.set_cons_succ, i64_w, i32_w]; rfl)
     refine pure_ (i := 3) (N := some 42) (v := ?_) (a' := ?_) #[true, true, true, true, false, false, false, false, false, false, false, false, false, false, false, false, false] rfl rfl (any_of HT_.out (by kernel_rfl)) (fun _ _ _ h => h) (Or.inl ⟨by rfl, ?_⟩) ?_ ?_
     rotate_left; · (intro w'; go_simp; with_reducible rfl)
     rotate_left; · (simp only [Act.put, List.setIfInBounds_toArray, List.set_cons_zero, List.set_cons_succ, i64_w, i32_w]; rfl)
     refine pure_ (i := 4) (N := some 43) (v := ?_) (a' := ?_) #[true, true, true, true, true, false, false, false, false, false, false, false, false, false, false, false, false] rfl rfl (any_of HT_.out (by kernel_rfl)) (fun _ _ _ h => h) (Or.inl ⟨by rfl, ?_⟩) ?_ ?_
     rotate_left; · (intro w'; go_simp; with_reducible rfl)
     rotate_left; · (simp only [Act.put, List.setIfInBounds_toArray, List.set_cons_zero, List.set_cons_succ, i64_w, i32_w]; rfl)
     refine pure_ (i := 5) (N := some 44) (v := ?_) (a' := ?_) #[true, true, true, true, true, true, false, false, false, false, false, false, false, false, false, false, false] rfl rfl (any_of HT_.out (by kernel_rfl)) (fun _ _ _ h => h) (Or.inl ⟨by rfl, ?_⟩) ?_ ?_
     rotate_left; · (intro w'; go_simp; with_reducible rfl)
     rotate_left; · (simp only [Act.put, List.setIfInBounds_toArray, List.set_cons_zero, List.set_cons_succ, i64_w, i32_w]; rfl)
     refine pure_ (i := 6) (N := some 45) (v := ?_) (a' := ?_) #[true, true, true, true, true, true, true, false, false, false, false, false, false, false, false, false, false] rfl rfl (any_of HT_.out (by kernel_rfl)) (fun _ _ _ h => h) (Or.inl ⟨by rfl, ?_⟩) ?_ ?_
     rotate_left; · (intro w'; go_simp; with_reducible rfl)
     rotate_left; · (simp only [Act.put, List.setIfInBounds_toArray, List.set_cons_zero, List.set_cons_succ, i64_w, i32_w]; rfl)
     refine take_ (i := 7) (N := some 46) (v := ?_) (a' := ?_) #[true, true, true, true, true, true, true, true, false, false, false, false, false, false, false, false, false] rfl rfl (take_ofW HT_.out HW_.out (by kernel_rfl)) (fun _ _ _ h => h) (Or.inl ⟨by rfl, ?_⟩) hHeld ?_ ?_
     rotate_left
     ·
      rintro w' ⟨s0, s1, s2, s3⟩
      go_simp
      with_reducible rfl
     rotate_left
     ·
      simp only [Act.put, List.setIfInBounds_toArray, List.set_cons_zero, List.set_cons_succ, i64_w, i32_w]
      rfl
     refine take_ (i := 9) (N := some 48) (v := ?_) (a' := ?_) #[true, true, true, true, true, true, true, true, false, true, false, false, false, false, false, false, false] rfl rfl (take_ofW HT_.out HW_.out (by kernel_rfl)) (fun _ _ _ h => h) (Or.inl ⟨by rfl, ?_⟩) hHeld ?_ ?_
     rotate_left
     ·
      rintro w' ⟨s0, s1, s2, s3⟩
      go_simp
      with_reducible rfl
     rotate_left
     ·
      simp only [Act.put, List.setIfInBounds_toArray, List.set_cons_zero, List.set_cons_succ, i64_w, i32_w]
      rfl
     refine one_ (i := 8) (N := some 47) #[true, true, true, true, true, true, true, true, true, true, false, false, false, false, false, false, false] rfl rfl (one_of HT_.out (by kernel_rfl)) (by decide) (fun K hK => ?_)
     refine goes_ Try.func39 (by kernel_rfl) rfl #[.agg #[.int .i64 t398, .int .i64 t399]] (by rfl) rfl rfl (mapq rfl) ?_
     with_reducible refine (avermentlaw10_From.calls t398 t399 t407 t408 _ A48.out).mono ?_
     rintro e w53 ⟨rfl, hb⟩
     refine ⟨_, rfl, ?_⟩
     replace BK385 := bb BK385 hb rfl; replace BK386 := bb BK386 hb rfl; replace BK401 := bb BK401 hb rfl; replace BK405 := bb BK405 hb rfl; replace HB := hst HB hb rfl
     (try clear hb)
     refine hK.out _ _ ⟨bc BK401 0 rfl, bc BK401 1 rfl, bc BK405 0 rfl, bc BK405 1 rfl⟩ (fun hHeld => ?_)
     clear hK K
     refine norm_ (a' := ?_) ?_ ?_
     rotate_left; · (show Act.put _ (some 47) _ = _; simp only [Act.put, List.setIfInBounds_toArray, List.set_cons_zero, List.set_cons_succ, i64_w, i32_w]; rfl)
     refine pure_ (i := 10) (N := some 49) (v := ?_) (a' := ?_) #[true, true, true, true, true, true, true, true, true, true, true, false, false, false, false, false, false] rfl rfl (any_of HT_.out (by kernel_rfl)) (fun _ _ _ h => h) (Or.inl ⟨by rfl, ?_⟩) ?_ ?_
     rotate_left; · (intro w'; go_simp; with_reducible rfl)
     rotate_left; · (simp only [Act.put, List.setIfInBounds_toArray, List.set_cons_zero, List.set_cons_succ, i64_w, i32_w]; rfl)
     refine pure_ (i := 11) (N := some 50) (v := ?_) (a' := ?_) #[true, true, true, true, true, true, true, true, true, true, true, true, false, false, false, false, false] rfl rfl (any_of HT_.out (by kernel_rfl)) (fun _ _ _ h => h) (Or.inl ⟨by rfl, ?_⟩) ?_ ?_
     rotate_left; · (intro w'; go_simp; with_reducible rfl)
     rotate_left; · (simp only [Act.put, List.setIfInBounds_toArray, List.set_cons_zero, List.set_cons_succ, i64_w, i32_w]; rfl)
     refine pure_ (i := 12) (N := some 51) (v := ?_) (a' := ?_) #[true, true, true, true, true, true, true, true, true, true, true, true, true, false, false, false, false] rfl rfl (any_of HT_.out (by kernel_rfl)) (fun _ _ _ h => h) (Or.inl ⟨by rfl, ?_⟩) ?_ ?_
     rotate_left; · (intro w'; go_simp; with_reducible rfl)
     rotate_left; · (simp only [Act.put, List.setIfInBounds_toArray, List.set_cons_zero, List.set_cons_succ, i64_w, i32_w]; rfl)
     refine pure_ (i := 13) (N := some 52) (v := undef) (a' := ?_) #[true, true, true, true, true, true, true, true, true, true, true, true, true, true, false, false, false] rfl rfl (any_of HT_.out (by kernel_rfl)) (fun _ _ _ h => h) (Or.inr ⟨by rfl, rfl⟩) ?_ ?_
     rotate_left
     ·
      simp only [Act.put, List.setIfInBounds_toArray, List.set_cons_zero, List.set_cons_succ, i64_w, i32_w]
      rfl
     refine pure_ (i := 14) (N := some 53) (v := undef) (a' := ?_) #[true, true, true, true, true, true, true, true, true, true, true, true, true, true, true, false, false] rfl rfl (any_of HT_.out (by kernel_rfl)) (fun _ _ _ h => h) (Or.inr ⟨by rfl, rfl⟩) ?_ ?_
     rotate_left
     ·
      simp only [Act.put, List.setIfInBounds_toArray, List.set_cons_zero, List.set_cons_succ, i64_w, i32_w]
      rfl
     refine pure_ (i := 15) (N := some 54) (v := undef) (a' := ?_) #[true, true, true, true, true, true, true, true, true, true, true, true, true, true, true, true, false] rfl rfl (any_of HT_.out (by kernel_rfl)) (fun _ _ _ h => h) (Or.inr ⟨by rfl, rfl⟩) ?_ ?_
     rotate_left
     ·
      simp only [Act.put, List.setIfInBounds_toArray, List.set_cons_zero, List.set_cons_succ, i64_w, i32_w]
      rfl
     refine pure_ (i := 16) (N := some 55) (v := ?_) (a' := ?_) #[true, true, true, true, true, true, true, true, true, true, true, true, true, true, true, true, true] rfl rfl (any_of HT_.out (by kernel_rfl)) (fun _ _ _ h => h) (Or.inl ⟨by rfl, ?_⟩) ?_ ?_
     rotate_left; · (intro w'; go_simp; with_reducible rfl)
     rotate_left; · (simp only [Act.put, List.setIfInBounds_toArray, List.set_cons_zero, List.set_cons_succ, i64_w, i32_w]; rfl)
     refine done_ (done_of HT_.out (by kernel_rfl)) ?_
     try go_wp2
     (first | go_meet | (refine Met.intro ?_; go_step; (repeat apply Exists.intro); refine ⟨?rel, ?eq_⟩; (case eq_ => (rw [c47b0]))))
     case rel => exact ⟨_, (true), (by first | rfl | (simp; done) | (simp [*]; done)), H', ⟨by first | omega | exact Nat.le_refl _⟩, ⟨by (with_reducible repeat (first | refine blk_drewN ?_ _ | refine blk_drew ?_ | refine blk_alloc ?_ _)); exact BK385.out⟩, ⟨by (with_reducible repeat (first | refine blk_drewN ?_ _ | refine blk_drew ?_ | refine blk_alloc ?_ _)); exact BK386.out⟩, ⟨by (with_reducible repeat (first | refine blk_drewN ?_ _ | refine blk_drew ?_ | refine blk_alloc ?_ _)); exact BK401.out⟩, ⟨by (with_reducible repeat (first | refine blk_drewN ?_ _ | refine blk_drew ?_ | refine blk_alloc ?_ _)); exact BK405.out⟩, ⟨by repeat (first | (with_reducible first | exact HB.out | apply below_alloc | apply pw_below_drewN | apply below_drew1 | refine below_set ?_ GE385.out | refine below_set ?_ GE386.out | refine below_set ?_ GE401.out | refine below_set ?_ GE405.out) | exact HB.out)⟩⟩
    ·
     rw [if_neg c49] at H
     have c49b0 : (!(t407 == t402) || (!(t408 == t403))) = false := by simpa using c49
     clear c49
     have H' := Aside0.mk H
     clear H
     try go_wp2
     have n0_ : Aside0 (((w40.setCell ⟨gb405, 0, none⟩ (.int .i64 t402)).setCell ⟨gb405, 1, none⟩ (.int .i64 t403)).heap[gb385]? = some (.cells #[.int .i64 t390, .int .i64 t391] 56 (0, 0))) := ⟨by (with_reducible repeat (first | refine blk_drewN ?_ _ | refine blk_drew ?_ | refine blk_alloc ?_ _)); refine blk_far ?_ NB385_405.out _; (with_reducible repeat (first | refine blk_drewN ?_ _ | refine blk_drew ?_ | refine blk_alloc ?_ _)); refine blk_far ?_ NB385_405.out _; (with_reducible repeat (first | refine blk_drewN ?_ _ | refine blk_drew ?_ | refine blk_alloc ?_ _)); exact BK385.out⟩
     have n1_ : Aside0 (((w40.setCell ⟨gb405, 0, none⟩ (.int .i64 t402)).setCell ⟨gb405, 1, none⟩ (.int .i64 t403)).heap[gb386]? = some (.cells #[.int .i64 t392, .int .i64 t393] 56 (0, 0))) := ⟨by (with_reducible repeat (first | refine blk_drewN ?_ _ | refine blk_drew ?_ | refine blk_alloc ?_ _)); refine blk_far ?_ NB386_405.out _; (with_reducible repeat (first | refine blk_drewN ?_ _ | refine blk_drew ?_ | refine blk_alloc ?_ _)); refine blk_far ?_ NB386_405.out _; (with_reducible repeat (first | refine blk_drewN ?_ _ | refine blk_drew ?_ | refine blk_alloc ?_ _)); exact BK386.out⟩
     have n2_ : Aside0 (((w40.setCell ⟨gb405, 0, none⟩ (.int .i64 t402)).setCell ⟨gb405, 1, none⟩ (.int .i64 t403)).heap[gb401]? = some (.cells #[.int .i64 t398, .int .i64 t399] 59 (0, 0))) := ⟨by (with_reducible repeat (first | refine blk_drewN ?_ _ | refine blk_drew ?_ | refine blk_alloc ?_ _)); refine blk_far ?_ NB401_405.out _; (with_reducible repeat (first | refine blk_drewN ?_ _ | refine blk_drew ?_ | refine blk_alloc ?_ _)); refine blk_far ?_ NB401_405.out _; (with_reducible repeat (first | refine blk_drewN ?_ _ | refine blk_drew ?_ | refine blk_alloc ?_ _)); exact BK401.out⟩
     have n3_ : Aside0 (((w40.setCell ⟨gb405, 0, none⟩ (.int .i64 t402)).setCell ⟨gb405, 1, none⟩ (.int .i64 t403)).heap[gb405]? = some (.cells #[.int .i64 t402, .int .i64 t403] 56 (0, 0))) := ⟨by (with_reducible repeat (first | refine blk_drewN ?_ _ | refine blk_drew ?_ | refine blk_alloc ?_ _)); refine blk_put (cs := #[.int .i64 t402, .int .i64 0]) ?_ 1 _ rfl; (with_reducible repeat (first | refine blk_drewN ?_ _ | refine blk_drew ?_ | refine blk_alloc ?_ _)); refine blk_put (cs := #[.int .i64 0, .int .i64 0]) ?_ 0 _ rfl; (with_reducible repeat (first | refine blk_drewN ?_ _ | refine blk_drew ?_ | refine blk_alloc ?_ _)); exact BK405.out⟩
     have n4_ : Aside0 (Below w.heap.size w ((w40.setCell ⟨gb405, 0, none⟩ (.int .i64 t402)).setCell ⟨gb405, 1, none⟩ (.int .i64 t403))) := ⟨by repeat (first | (with_reducible first | exact HB.out | apply below_alloc | apply pw_below_drewN | apply below_drew1 | refine below_set ?_ GE385.out | refine below_set ?_ GE386.out | refine below_set ?_ GE401.out | refine below_set ?_ GE405.out) | exact HB.out)⟩
     (try clear BK385)
     (try clear BK386)
     (try clear BK401)
     (try clear BK405)
     (try clear HB)
     generalize ((w40.setCell ⟨gb405, 0, none⟩ (.int .i64 t402)).setCell ⟨gb405, 1, none⟩ (.int .i64 t403)) = w54 at n0_ n1_ n2_ n3_ n4_ ⊢
     have BK385 := n0_
     have BK386 := n1_
     have BK401 := n2_
     have BK405 := n3_
     have HB := n4_
     clear n0_ n1_ n2_ n3_ n4_
     replace BK385 := Aside0.mk (blk_drew BK385.out); replace BK386 := Aside0.mk (blk_drew BK386.out); replace BK401 := Aside0.mk (blk_drew BK401.out); replace BK405 := Aside0.mk (blk_drew BK405.out); replace HB := Aside0.mk (below_drew1 HB.out)
     refine start_ (n := 17) (S := fun w' => w'.cell? ⟨gb401, 0, none⟩ = some (.int .i64 t398) ∧ w'.cell? ⟨gb401, 1, none⟩ = some (.int .i64 t399) ∧ w'.cell? ⟨gb405, 0, none⟩ = some (.int .i64 t402) ∧ w'.cell? ⟨gb405, 1, none⟩ = some (.int .i64 t403)) (ds := []) #[false, false, false, false, false, false, false, false, false, false, false, false, false, false, false, false, false] (by kernel_rfl) rfl rfl ⟨bc BK401 0 rfl, bc BK401 1 rfl, bc BK405 0 rfl, bc BK405 1 rfl⟩ (fun hHeld => ?_); refine with_tabW avermentlaw10_SpanSets.tab5 avermentlaw10_SpanSets.bits5 (fun HT_ HW_ => ?_)
     generalize w54.drew = w55 at BK385 BK386 BK401 BK405 HB hHeld ⊢
     refine one_ (i := 0) (N := some 39) #[true, false, false, false, false, false, false, false, false, false, false, false, false, false, false, false, false] rfl rfl (one_of HT_.out (by kernel_rfl)) (by decide) (fun K hK => ?_)
     refine goes_ Try.func38 (by kernel_rfl) rfl #[] (by rfl) rfl rfl (mapq rfl) ?_
     with_reducible refine (avermentlaw10_told.calls k  true _ A45.out).mono ?_
     rintro e w56 ⟨rfl, hb⟩
     refine ⟨_, rfl, ?_⟩
     replace BK385 := bb BK385 hb rfl; replace BK386 := bb BK386 hb rfl; replace BK401 := bb BK401 hb rfl; replace BK405 := bb BK405 hb rfl; replace HB := hst HB hb rfl
     (try clear hb)
     refine hK.out _ _ ⟨bc BK401 0 rfl, bc BK401 1 rfl, bc BK405 0 rfl, bc BK405 1 rfl⟩ (fun hHeld => ?_)
     clear hK K
     refine norm_ (a' := ?_) ?_ ?_
     rotate_left; · (show Act.put _ (some 39) _ = _; simp only [Act.put, List.setIfInBounds_toArray, List.set_cons_zero, List.set_cons_succ, i64_w, i32_w]; rfl)
     refine pure_ (i := 1) (N := some 40) (v := ?_) (a' := ?_) #[true, true, false, false, false, false, false, false, false, false, false, false, false, false, false, false, false] rfl rfl (any_of HT_.out (by kernel_rfl)) (fun _ _ _ h => h) (Or.inl ⟨by rfl, ?_⟩) ?_ ?_
     rotate_left; · (intro w'; go_simp; with_reducible rfl)
     rotate_left; · (simp only [Act.put, List.setIfInBounds_toArray, List.set_cons_zero, List.set_cons_succ, i64_w, i32_w]; rfl)
     refine pure_ (i := 2) (N := some 41) (v := ?_) (a' := ?_) #[true, true, true, false, false, false, false, false, false, false, false, false, false, false, false, false, false] rfl rfl (any_of HT_.out (by kernel_rfl)) (fun _ _ _ h => h) (Or.inl ⟨by rfl, ?_⟩) ?_ ?_
     rotate_left; · (intro w'; go_simp; with_reducible rfl)
     rotate_left; · (simp only [Act.put, List.setIfInBounds_toArray, List.set_cons_zero, List.set_cons_succ, i64_w, i32_w]; rfl)
     refine pure_ (i := 3) (N := some 42) (v := ?_) (a' := ?_) #[true, true, true, true, false, false, false, false, false, false, false, false, false, false, false, false, false] rfl rfl (any_of HT_.out (by kernel_rfl)) (fun _ _ _ h => h) (Or.inl ⟨by rfl, ?_⟩) ?_ ?_
     rotate_left; · (intro w'; go_simp; with_reducible rfl)
     rotate_left; · (simp only [Act.put, List.setIfInBounds_toArray, List.set_cons_zero, List.set_cons_succ, i64_w, i32_w]; rfl)
     refine pure_ (i := 4) (N := some 43) (v := ?_) (a' := ?_) #[true, true, true, true, true, false, false, false, false, false, false, false, false, false, false, false, false] rfl rfl (any_of HT_.out (by kernel_rfl)) (fun _ _ _ h => h) (Or.inl ⟨by rfl, ?_⟩) ?_ ?_
     rotate_left; · (intro w'; go_simp; with_reducible rfl)
     rotate_left; · (simp only [Act.put, List.setIfInBounds_toArray, List.set_cons_zero, List.set_cons_succ, i64_w, i32_w]; rfl)
     refine pure_ (i := 5) (N := some 44) (v := ?_) (a' := ?_) #[true, true, true, true, true, true, false, false, false, false, false, false, false, false, false, false, false] rfl rfl (any_of HT_.out (by kernel_rfl)) (fun _ _ _ h => h) (Or.inl ⟨by rfl, ?_⟩) ?_ ?_
     rotate_left; · (intro w'; go_simp; with_reducible rfl)
     rotate_left; · (simp only [Act.put, List.setIfInBounds_toArray, List.set_cons_zero, List.set_cons_succ, i64_w, i32_w]; rfl)
     refine pure_ (i := 6) (N := some 45) (v := ?_) (a' := ?_) #[true, true, true, true, true, true, true, false, false, false, false, false, false, false, false, false, false] rfl rfl (any_of HT_.out (by kernel_rfl)) (fun _ _ _ h => h) (Or.inl ⟨by rfl, ?_⟩) ?_ ?_
     rotate_left; · (intro w'; go_simp; with_reducible rfl)
     rotate_left; · (simp only [Act.put, List.setIfInBounds_toArray, List.set_cons_zero, List.set_cons_succ, i64_w, i32_w]; rfl)
     refine take_ (i := 7) (N := some 46) (v := ?_) (a' := ?_) #[true, true, true, true, true, true, true, true, false, false, false, false, false, false, false, false, false] rfl rfl (take_ofW HT_.out HW_.out (by kernel_rfl)) (fun _ _ _ h => h) (Or.inl ⟨by rfl, ?_⟩) hHeld ?_ ?_
     rotate_left
     ·
      rintro w' ⟨s0, s1, s2, s3⟩
      go_simp
      with_reducible rfl
     rotate_left
     ·
      simp only [Act.put, List.setIfInBounds_toArray, List.set_cons_zero, List.set_cons_succ, i64_w, i32_w]
      rfl
     refine take_ (i := 9) (N := some 48) (v := ?_) (a' := ?_) #[true, true, true, true, true, true, true, true, false, true, false, false, false, false, false, false, false] rfl rfl (take_ofW HT_.out HW_.out (by kernel_rfl)) (fun _ _ _ h => h) (Or.inl ⟨by rfl, ?_⟩) hHeld ?_ ?_
     rotate_left
     ·
      rintro w' ⟨s0, s1, s2, s3⟩
      go_simp
      with_reducible rfl
     rotate_left
     ·
      simp only [Act.put, List.setIfInBounds_toArray, List.set_cons_zero, List.set_cons_succ, i64_w, i32_w]
      rfl
     refine one_ (i := 8) (N := some 47) #[true, true, true, true, true, true, true, true, true, true, false, false, false, false, false, false, false] rfl rfl (one_of HT_.out (by kernel_rfl)) (by decide) (fun K hK => ?_)
     refine goes_ Try.func39 (by kernel_rfl) rfl #[.agg #[.int .i64 t398, .int .i64 t399]] (by rfl) rfl rfl (mapq rfl) ?_
     with_reducible refine (avermentlaw10_From.calls t398 t399 t407 t408 _ A48.out).mono ?_
     rintro e w57 ⟨rfl, hb⟩
     refine ⟨_, rfl, ?_⟩
     replace BK385 := bb BK385 hb rfl; replace BK386 := bb BK386 hb rfl; replace BK401 := bb BK401 hb rfl; replace BK405 := bb BK405 hb rfl; replace HB := hst HB hb rfl
     (try clear hb)
     refine hK.out _ _ ⟨bc BK401 0 rfl, bc BK401 1 rfl, bc BK405 0 rfl, bc BK405 1 rfl⟩ (fun hHeld => ?_)
     clear hK K
     refine norm_ (a' := ?_) ?_ ?_
     rotate_left; · (show Act.put _ (some 47) _ = _; simp only [Act.put, List.setIfInBounds_toArray, List.set_cons_zero, List.set_cons_succ, i64_w, i32_w]; rfl)
     refine pure_ (i := 10) (N := some 49) (v := ?_) (a' := ?_) #[true, true, true, true, true, true, true, true, true, true, true, false, false, false, false, false, false] rfl rfl (any_of HT_.out (by kernel_rfl)) (fun _ _ _ h => h) (Or.inl ⟨by rfl, ?_⟩) ?_ ?_
     rotate_left; · (intro w'; go_simp; with_reducible rfl)
     rotate_left; · (simp only [Act.put, List.setIfInBounds_toArray, List.set_cons_zero, List.set_cons_succ, i64_w, i32_w]; rfl)
     refine pure_ (i := 11) (N := some 50) (v := ?_) (a' := ?_) #[true, true, true, true, true, true, true, true, true, true, true, true, false, false, false, false, false] rfl rfl (any_of HT_.out (by kernel_rfl)) (fun _ _ _ h => h) (Or.inl ⟨by rfl, ?_⟩) ?_ ?_
     rotate_left; · (intro w'; go_simp; with_reducible rfl)
     rotate_left; · (simp only [Act.put, List.setIfInBounds_toArray, List.set_cons_zero, List.set_cons_succ, i64_w, i32_w]; rfl)
     refine pure_ (i := 12) (N := some 51) (v := ?_) (a' := ?_) #[true, true, true, true, true, true, true, true, true, true, true, true, true, false, false, false, false] rfl rfl (any_of HT_.out (by kernel_rfl)) (fun _ _ _ h => h) (Or.inl ⟨by rfl, ?_⟩) ?_ ?_
     rotate_left; · (intro w'; go_simp; with_reducible rfl)
     rotate_left; · (simp only [Act.put, List.setIfInBounds_toArray, List.set_cons_zero, List.set_cons_succ, i64_w, i32_w]; rfl)
     refine pure_ (i := 13) (N := some 52) (v := ?_) (a' := ?_) #[true, true, true, true, true, true, true, true, true, true, true, true, true, true, false, false, false] rfl rfl (any_of HT_.out (by kernel_rfl)) (fun _ _ _ h => h) (Or.inl ⟨by rfl, ?_⟩) ?_ ?_
     rotate_left; · (intro w'; go_simp; with_reducible rfl)
     rotate_left; · (simp only [Act.put, List.setIfInBounds_toArray, List.set_cons_zero, List.set_cons_succ, i64_w, i32_w]; rfl)
     refine pure_ (i := 14) (N := some 53) (v := ?_) (a' := ?_) #[true, true, true, true, true, true, true, true, true, true, true, true, true, true, true, false, false] rfl rfl (any_of HT_.out (by kernel_rfl)) (fun _ _ _ h => h) (Or.inl ⟨by rfl, ?_⟩) ?_ ?_
     rotate_left; · (intro w'; go_simp; with_reducible rfl)
     rotate_left; · (simp only [Act.put, List.setIfInBounds_toArray, List.set_cons_zero, List.set_cons_succ, i64_w, i32_w]; rfl)
     refine pure_ (i := 15) (N := some 54) (v := ?_) (a' := ?_) #[true, true, true, true, true, true, true, true, true, true, true, true, true, true, true, true, false] rfl rfl (any_of HT_.out (by kernel_rfl)) (fun _ _ _ h => h) (Or.inl ⟨by rfl, ?_⟩) ?_ ?_
     rotate_left; · (intro w'; go_simp; with_reducible rfl)
     rotate_left; · (simp only [Act.put, List.setIfInBounds_toArray, List.set_cons_zero, List.set_cons_succ, i64_w, i32_w]; rfl)
     refine pure_ (i := 16) (N := some 55) (v := ?_) (a' := ?_) #[true, true, true, true, true, true, true, true, true, true, true, true, true, true, true, true, true] rfl rfl (any_of HT_.out (by kernel_rfl)) (fun _ _ _ h => h) (Or.inl ⟨by rfl, ?_⟩) ?_ ?_
     rotate_left; · (intro w'; go_simp; with_reducible rfl)
     rotate_left; · (simp only [Act.put, List.setIfInBounds_toArray, List.set_cons_zero, List.set_cons_succ, i64_w, i32_w]; rfl)
     refine done_ (done_of HT_.out (by kernel_rfl)) ?_
     try go_wp2
     (first | go_meet | (refine Met.intro ?_; go_step; (repeat apply Exists.intro); refine ⟨?rel, ?eq_⟩; (case eq_ => (rw [c47b0]))))
     case rel => exact ⟨_, ((t400 != t404)), (by first | rfl | (simp; done) | (simp [*]; done)), H', ⟨by first | omega | exact Nat.le_refl _⟩, ⟨by (with_reducible repeat (first | refine blk_drewN ?_ _ | refine blk_drew ?_ | refine blk_alloc ?_ _)); exact BK385.out⟩, ⟨by (with_reducible repeat (first | refine blk_drewN ?_ _ | refine blk_drew ?_ | refine blk_alloc ?_ _)); exact BK386.out⟩, ⟨by (with_reducible repeat (first | refine blk_drewN ?_ _ | refine blk_drew ?_ | refine blk_alloc ?_ _)); exact BK401.out⟩, ⟨by (with_reducible repeat (first | refine blk_drewN ?_ _ | refine blk_drew ?_ | refine blk_alloc ?_ _)); exact BK405.out⟩, ⟨by repeat (first | (with_reducible first | exact HB.out | apply below_alloc | apply pw_below_drewN | apply below_drew1 | refine below_set ?_ GE385.out | refine below_set ?_ GE386.out | refine below_set ?_ GE401.out | refine below_set ?_ GE405.out) | exact HB.out)⟩⟩
   ·
    rw [if_neg c47] at H
    have c47b0 : (t389 == (decide (a0_0 ≤ a0_1))) = false := by simpa using c47
    (try (have c47b1 : decide (t389 = (decide (a0_0 ≤ a0_1))) = false := by simpa using c47))
    (try (have c47b2 : (t389 == (decide (a0_0 ≤ a0_1))) = false := by simpa using c47))
    (try (have c47b3 : ¬ (t389 = (decide (a0_0 ≤ a0_1))) := by simpa using c47))
    clear c47
    (first | rw [c47b0] | (simp only [i64_w, i32_w]; rw [c47b0]) | skip)
    have H' := Aside0.mk H
    clear H
    try go_wp2
    have n0_ : Aside0 (((w40.setCell ⟨gb405, 0, none⟩ (.int .i64 t402)).setCell ⟨gb405, 1, none⟩ (.int .i64 t403)).heap[gb385]? = some (.cells #[.int .i64 t390, .int .i64 t391] 56 (0, 0))) := ⟨by (with_reducible repeat (first | refine blk_drewN ?_ _ | refine blk_drew ?_ | refine blk_alloc ?_ _)); refine blk_far ?_ NB385_405.out _; (with_reducible repeat (first | refine blk_drewN ?_ _ | refine blk_drew ?_ | refine blk_alloc ?_ _)); refine blk_far ?_ NB385_405.out _; (with_reducible repeat (first | refine blk_drewN ?_ _ | refine blk_drew ?_ | refine blk_alloc ?_ _)); exact BK385.out⟩
    have n1_ : Aside0 (((w40.setCell ⟨gb405, 0, none⟩ (.int .i64 t402)).setCell ⟨gb405, 1, none⟩ (.int .i64 t403)).heap[gb386]? = some (.cells #[.int .i64 t392, .int .i64 t393] 56 (0, 0))) := ⟨by (with_reducible repeat (first | refine blk_drewN ?_ _ | refine blk_drew ?_ | refine blk_alloc ?_ _)); refine blk_far ?_ NB386_405.out _; (with_reducible repeat (first | refine blk_drewN ?_ _ | refine blk_drew ?_ | refine blk_alloc ?_ _)); refine blk_far ?_ NB386_405.out _; (with_reducible repeat (first | refine blk_drewN ?_ _ | refine blk_drew ?_ | refine blk_alloc ?_ _)); exact BK386.out⟩
    have n2_ : Aside0 (((w40.setCell ⟨gb405, 0, none⟩ (.int .i64 t402)).setCell ⟨gb405, 1, none⟩ (.int .i64 t403)).heap[gb401]? = some (.cells #[.int .i64 t398, .int .i64 t399] 59 (0, 0))) := ⟨by (with_reducible repeat (first | refine blk_drewN ?_ _ | refine blk_drew ?_ | refine blk_alloc ?_ _)); refine blk_far ?_ NB401_405.out _; (with_reducible repeat (first | refine blk_drewN ?_ _ | refine blk_drew ?_ | refine blk_alloc ?_ _)); refine blk_far ?_ NB401_405.out _; (with_reducible repeat (first | refine blk_drewN ?_ _ | refine blk_drew ?_ | refine blk_alloc ?_ _)); exact BK401.out⟩
    have n3_ : Aside0 (((w40.setCell ⟨gb405, 0, none⟩ (.int .i64 t402)).setCell ⟨gb405, 1, none⟩ (.int .i64 t403)).heap[gb405]? = some (.cells #[.int .i64 t402, .int .i64 t403] 56 (0, 0))) := ⟨by (with_reducible repeat (first | refine blk_drewN ?_ _ | refine blk_drew ?_ | refine blk_alloc ?_ _)); refine blk_put (cs := #[.int .i64 t402, .int .i64 0]) ?_ 1 _ rfl; (with_reducible repeat (first | refine blk_drewN ?_ _ | refine blk_drew ?_ | refine blk_alloc ?_ _)); refine blk_put (cs := #[.int .i64 0, .int .i64 0]) ?_ 0 _ rfl; (with_reducible repeat (first | refine blk_drewN ?_ _ | refine blk_drew ?_ | refine blk_alloc ?_ _)); exact BK405.out⟩
    have n4_ : Aside0 (Below w.heap.size w ((w40.setCell ⟨gb405, 0, none⟩ (.int .i64 t402)).setCell ⟨gb405, 1, none⟩ (.int .i64 t403))) := ⟨by repeat (first | (with_reducible first | exact HB.out | apply below_alloc | apply pw_below_drewN | apply below_drew1 | refine below_set ?_ GE385.out | refine below_set ?_ GE386.out | refine below_set ?_ GE401.out | refine below_set ?_ GE405.out) | exact HB.out)⟩
    (try clear BK385)
    (try clear BK386)
    (try clear BK401)
    (try clear BK405)
    (try clear HB)
    generalize ((w40.setCell ⟨gb405, 0, none⟩ (.int .i64 t402)).setCell ⟨gb405, 1, none⟩ (.int .i64 t403)) = w58 at n0_ n1_ n2_ n3_ n4_ ⊢
    have BK385 := n0_
    have BK386 := n1_
    have BK401 := n2_
    have BK405 := n3_
    have HB := n4_
    clear n0_ n1_ n2_ n3_ n4_
    replace BK385 := Aside0.mk (blk_drew BK385.out); replace BK386 := Aside0.mk (blk_drew BK386.out); replace BK401 := Aside0.mk (blk_drew BK401.out); replace BK405 := Aside0.mk (blk_drew BK405.out); replace HB := Aside0.mk (below_drew1 HB.out)
    refine start_ (n := 17) (S := fun w' => True) (ds := []) #[false, false, false, false, false, false, false, false, false, false, false, false, false, false, false, false, false] (by kernel_rfl) rfl rfl trivial (fun hHeld => ?_); refine with_tabW avermentlaw10_SpanSets.tab5 avermentlaw10_SpanSets.bits5 (fun HT_ HW_ => ?_)
    generalize w58.drew = w59 at BK385 BK386 BK401 BK405 HB hHeld ⊢
    refine one_ (i := 0) (N := some 39) #[true, false, false, false, false, false, false, false, false, false, false, false, false, false, false, false, false] rfl rfl (one_of HT_.out (by kernel_rfl)) (by decide) (fun K hK => ?_)
    refine goes_ Try.func38 (by kernel_rfl) rfl #[] (by rfl) rfl rfl (mapq rfl) ?_
    with_reducible refine (avermentlaw10_told.calls k  true _ A45.out).mono ?_
    rintro e w60 ⟨rfl, hb⟩
    refine ⟨_, rfl, ?_⟩
    replace BK385 := bb BK385 hb rfl; replace BK386 := bb BK386 hb rfl; replace BK401 := bb BK401 hb rfl; replace BK405 := bb BK405 hb rfl; replace HB := hst HB hb rfl
    (try clear hb)
    refine hK.out _ _ trivial (fun hHeld => ?_)
    clear hK K
    refine norm_ (a' := ?_) ?_ ?_
    rotate_left; · (show Act.put _ (some 39) _ = _; simp only [Act.put, List.setIfInBounds_toArray, List.set_cons_zero, List.set_cons_succ, i64_w, i32_w]; rfl)
    refine pure_ (i := 1) (N := some 40) (v := ?_) (a' := ?_) #[true, true, false, false, false, false, false, false, false, false, false, false, false, false, false, false, false] rfl rfl (any_of HT_.out (by kernel_rfl)) (fun _ _ _ h => h) (Or.inl ⟨by rfl, ?_⟩) ?_ ?_
    rotate_left; · (intro w'; go_simp; with_reducible rfl)
    rotate_left; · (simp only [Act.put, List.setIfInBounds_toArray, List.set_cons_zero, List.set_cons_succ, i64_w, i32_w]; rfl)
    refine pure_ (i := 2) (N := some 41) (v := ?_) (a' := ?_) #[true, true, true, false, false, false, false, false, false, false, false, false, false, false, false, false, false] rfl rfl (any_of HT_.out (by kernel_rfl)) (fun _ _ _ h => h) (Or.inl ⟨by rfl, ?_⟩) ?_ ?_
    rotate_left; · (intro w'; go_simp; with_reducible rfl)
    rotate_left; · (simp only [Act.put, List.setIfInBounds_toArray, List.set_cons_zero, List.set_cons_succ, i64_w, i32_w]; rfl)
    refine pure_ (i := 3) (N := some 42) (v := ?_) (a' := ?_) #[true, true, true, true, false, false, false, false, false, false, false, false, false, false, false, false, false] rfl rfl (any_of HT_.out (by kernel_rfl)) (fun _ _ _ h => h) (Or.inl ⟨by rfl, ?_⟩) ?_ ?_
    rotate_left; · (intro w'; go_simp; with_reducible rfl)
    rotate_left; · (simp only [Act.put, List.setIfInBounds_toArray, List.set_cons_zero, List.set_cons_succ, i64_w, i32_w]; rfl)
    refine pure_ (i := 4) (N := some 43) (v := ?_) (a' := ?_) #[true, true, true, true, true, false, false, false, false, false, false, false, false, false, false, false, false] rfl rfl (any_of HT_.out (by kernel_rfl)) (fun _ _ _ h => h) (Or.inl ⟨by rfl, ?_⟩) ?_ ?_
    rotate_left; · (intro w'; go_simp; with_reducible rfl)
    rotate_left; · (simp only [Act.put, List.setIfInBounds_toArray, List.set_cons_zero, List.set_cons_succ, i64_w, i32_w]; rfl)
    refine pure_ (i := 5) (N := some 44) (v := ?_) (a' := ?_) #[true, true, true, true, true, true, false, false, false, false, false, false, false, false, false, false, false] rfl rfl (any_of HT_.out (by kernel_rfl)) (fun _ _ _ h => h) (Or.inl ⟨by rfl, ?_⟩) ?_ ?_
    rotate_left; · (intro w'; go_simp; with_reducible rfl)
    rotate_left; · (simp only [Act.put, List.setIfInBounds_toArray, List.set_cons_zero, List.set_cons_succ, i64_w, i32_w]; rfl)
    refine pure_ (i := 6) (N := some 45) (v := ?_) (a' := ?_) #[true, true, true, true, true, true, true, false, false, false, false, false, false, false, false, false, false] rfl rfl (any_of HT_.out (by kernel_rfl)) (fun _ _ _ h => h) (Or.inl ⟨by rfl, ?_⟩) ?_ ?_
    rotate_left; · (intro w'; go_simp; with_reducible rfl)
    rotate_left; · (simp only [Act.put, List.setIfInBounds_toArray, List.set_cons_zero, List.set_cons_succ, i64_w, i32_w]; rfl)
    refine pure_ (i := 7) (N := some 46) (v := undef) (a' := ?_) #[true, true, true, true, true, true, true, true, false, false, false, false, false, false, false, false, false] rfl rfl (any_of HT_.out (by kernel_rfl)) (fun _ _ _ h => h) (Or.inr ⟨by rfl, rfl⟩) ?_ ?_
    rotate_left
    ·
     simp only [Act.put, List.setIfInBounds_toArray, List.set_cons_zero, List.set_cons_succ, i64_w, i32_w]
     rfl
    refine pure_ (i := 8) (N := some 47) (v := undef) (a' := ?_) #[true, true, true, true, true, true, true, true, true, false, false, false, false, false, false, false, false] rfl rfl (any_of HT_.out (by kernel_rfl)) (fun _ _ _ h => h) (Or.inr ⟨by rfl, rfl⟩) ?_ ?_
    rotate_left
    ·
     simp only [Act.put, List.setIfInBounds_toArray, List.set_cons_zero, List.set_cons_succ, i64_w, i32_w]
     rfl
    refine pure_ (i := 9) (N := some 48) (v := undef) (a' := ?_) #[true, true, true, true, true, true, true, true, true, true, false, false, false, false, false, false, false] rfl rfl (any_of HT_.out (by kernel_rfl)) (fun _ _ _ h => h) (Or.inr ⟨by rfl, rfl⟩) ?_ ?_
    rotate_left
    ·
     simp only [Act.put, List.setIfInBounds_toArray, List.set_cons_zero, List.set_cons_succ, i64_w, i32_w]
     rfl
    refine pure_ (i := 10) (N := some 49) (v := undef) (a' := ?_) #[true, true, true, true, true, true, true, true, true, true, true, false, false, false, false, false, false] rfl rfl (any_of HT_.out (by kernel_rfl)) (fun _ _ _ h => h) (Or.inr ⟨by rfl, rfl⟩) ?_ ?_
    rotate_left
    ·
     simp only [Act.put, List.setIfInBounds_toArray, List.set_cons_zero, List.set_cons_succ, i64_w, i32_w]
     rfl
    refine pure_ (i := 11) (N := some 50) (v := ?_) (a' := ?_) #[true, true, true, true, true, true, true, true, true, true, true, true, false, false, false, false, false] rfl rfl (any_of HT_.out (by kernel_rfl)) (fun _ _ _ h => h) (Or.inl ⟨by rfl, ?_⟩) ?_ ?_
    rotate_left; · (intro w'; go_simp; with_reducible rfl)
    rotate_left; · (simp only [Act.put, List.setIfInBounds_toArray, List.set_cons_zero, List.set_cons_succ, i64_w, i32_w]; rfl)
    refine pure_ (i := 12) (N := some 51) (v := ?_) (a' := ?_) #[true, true, true, true, true, true, true, true, true, true, true, true, true, false, false, false, false] rfl rfl (any_of HT_.out (by kernel_rfl)) (fun _ _ _ h => h) (Or.inl ⟨by rfl, ?_⟩) ?_ ?_
    rotate_left; · (intro w'; go_simp; with_reducible rfl)
    rotate_left; · (simp only [Act.put, List.setIfInBounds_toArray, List.set_cons_zero, List.set_cons_succ, i64_w, i32_w]; rfl)
    refine pure_ (i := 13) (N := some 52) (v := undef) (a' := ?_) #[true, true, true, true, true, true, true, true, true, true, true, true, true, true, false, false, false] rfl rfl (any_of HT_.out (by kernel_rfl)) (fun _ _ _ h => h) (Or.inr ⟨by rfl, rfl⟩) ?_ ?_
    rotate_left
    ·
     simp only [Act.put, List.setIfInBounds_toArray, List.set_cons_zero, List.set_cons_succ, i64_w, i32_w]
     rfl
    refine pure_ (i := 14) (N := some 53) (v := undef) (a' := ?_) #[true, true, true, true, true, true, true, true, true, true, true, true, true, true, true, false, false] rfl rfl (any_of HT_.out (by kernel_rfl)) (fun _ _ _ h => h) (Or.inr ⟨by rfl, rfl⟩) ?_ ?_
    rotate_left
    ·
     simp only [Act.put, List.setIfInBounds_toArray, List.set_cons_zero, List.set_cons_succ, i64_w, i32_w]
     rfl
    refine pure_ (i := 15) (N := some 54) (v := undef) (a' := ?_) #[true, true, true, true, true, true, true, true, true, true, true, true, true, true, true, true, false] rfl rfl (any_of HT_.out (by kernel_rfl)) (fun _ _ _ h => h) (Or.inr ⟨by rfl, rfl⟩) ?_ ?_
    rotate_left
    ·
     simp only [Act.put, List.setIfInBounds_toArray, List.set_cons_zero, List.set_cons_succ, i64_w, i32_w]
     rfl
    refine pure_ (i := 16) (N := some 55) (v := ?_) (a' := ?_) #[true, true, true, true, true, true, true, true, true, true, true, true, true, true, true, true, true] rfl rfl (any_of HT_.out (by kernel_rfl)) (fun _ _ _ h => h) (Or.inl ⟨by rfl, ?_⟩) ?_ ?_
    rotate_left; · (intro w'; go_simp; with_reducible rfl)
    rotate_left; · (simp only [Act.put, List.setIfInBounds_toArray, List.set_cons_zero, List.set_cons_succ, i64_w, i32_w]; rfl)
    refine done_ (done_of HT_.out (by kernel_rfl)) ?_
    try go_wp2
    (first | go_meet | (refine Met.intro ?_; go_step; (repeat apply Exists.intro); refine ⟨?rel, ?eq_⟩; (case eq_ => (rw [c47b0]))))
    case rel => exact ⟨_, (true), (by first | rfl | (simp; done) | (simp [*]; done)), H', ⟨by first | omega | exact Nat.le_refl _⟩, ⟨by (with_reducible repeat (first | refine blk_drewN ?_ _ | refine blk_drew ?_ | refine blk_alloc ?_ _)); exact BK385.out⟩, ⟨by (with_reducible repeat (first | refine blk_drewN ?_ _ | refine blk_drew ?_ | refine blk_alloc ?_ _)); exact BK386.out⟩, ⟨by (with_reducible repeat (first | refine blk_drewN ?_ _ | refine blk_drew ?_ | refine blk_alloc ?_ _)); exact BK401.out⟩, ⟨by (with_reducible repeat (first | refine blk_drewN ?_ _ | refine blk_drew ?_ | refine blk_alloc ?_ _)); exact BK405.out⟩, ⟨by repeat (first | (with_reducible first | exact HB.out | apply below_alloc | apply pw_below_drewN | apply below_drew1 | refine below_set ?_ GE385.out | refine below_set ?_ GE386.out | refine below_set ?_ GE401.out | refine below_set ?_ GE405.out) | exact HB.out)⟩⟩
  ·
   replace c46 := Bool.eq_false_iff.mpr c46
   subst c46
   rw [if_neg (show ¬ (false = true) by decide)] at H
   have H' := Aside0.mk H
   clear H
   try go_wp2
   have n0_ : Aside0 (((w40.setCell ⟨gb405, 0, none⟩ (.int .i64 t402)).setCell ⟨gb405, 1, none⟩ (.int .i64 t403)).heap[gb385]? = some (.cells #[.int .i64 t390, .int .i64 t391] 56 (0, 0))) := ⟨by (with_reducible repeat (first | refine blk_drewN ?_ _ | refine blk_drew ?_ | refine blk_alloc ?_ _)); refine blk_far ?_ NB385_405.out _; (with_reducible repeat (first | refine blk_drewN ?_ _ | refine blk_drew ?_ | refine blk_alloc ?_ _)); refine blk_far ?_ NB385_405.out _; (with_reducible repeat (first | refine blk_drewN ?_ _ | refine blk_drew ?_ | refine blk_alloc ?_ _)); exact BK385.out⟩
   have n1_ : Aside0 (((w40.setCell ⟨gb405, 0, none⟩ (.int .i64 t402)).setCell ⟨gb405, 1, none⟩ (.int .i64 t403)).heap[gb386]? = some (.cells #[.int .i64 t392, .int .i64 t393] 56 (0, 0))) := ⟨by (with_reducible repeat (first | refine blk_drewN ?_ _ | refine blk_drew ?_ | refine blk_alloc ?_ _)); refine blk_far ?_ NB386_405.out _; (with_reducible repeat (first | refine blk_drewN ?_ _ | refine blk_drew ?_ | refine blk_alloc ?_ _)); refine blk_far ?_ NB386_405.out _; (with_reducible repeat (first | refine blk_drewN ?_ _ | refine blk_drew ?_ | refine blk_alloc ?_ _)); exact BK386.out⟩
   have n2_ : Aside0 (((w40.setCell ⟨gb405, 0, none⟩ (.int .i64 t402)).setCell ⟨gb405, 1, none⟩ (.int .i64 t403)).heap[gb401]? = some (.cells #[.int .i64 t398, .int .i64 t399] 59 (0, 0))) := ⟨by (with_reducible repeat (first | refine blk_drewN ?_ _ | refine blk_drew ?_ | refine blk_alloc ?_ _)); refine blk_far ?_ NB401_405.out _; (with_reducible repeat (first | refine blk_drewN ?_ _ | refine blk_drew ?_ | refine blk_alloc ?_ _)); refine blk_far ?_ NB401_405.out _; (with_reducible repeat (first | refine blk_drewN ?_ _ | refine blk_drew ?_ | refine blk_alloc ?_ _)); exact BK401.out⟩
   have n3_ : Aside0 (((w40.setCell ⟨gb405, 0, none⟩ (.int .i64 t402)).setCell ⟨gb405, 1, none⟩ (.int .i64 t403)).heap[gb405]? = some (.cells #[.int .i64 t402, .int .i64 t403] 56 (0, 0))) := ⟨by (with_reducible repeat (first | refine blk_drewN ?_ _ | refine blk_drew ?_ | refine blk_alloc ?_ _)); refine blk_put (cs := #[.int .i64 t402, .int .i64 0]) ?_ 1 _ rfl; (with_reducible repeat (first | refine blk_drewN ?_ _ | refine blk_drew ?_ | refine blk_alloc ?_ _)); refine blk_put (cs := #[.int .i64 0, .int .i64 0]) ?_ 0 _ rfl; (with_reducible repeat (first | refine blk_drewN ?_ _ | refine blk_drew ?_ | refine blk_alloc ?_ _)); exact BK405.out⟩
   have n4_ : Aside0 (Below w.heap.size w ((w40.setCell ⟨gb405, 0, none⟩ (.int .i64 t402)).setCell ⟨gb405, 1, none⟩ (.int .i64 t403))) := ⟨by repeat (first | (with_reducible first | exact HB.out | apply below_alloc | apply pw_below_drewN | apply below_drew1 | refine below_set ?_ GE385.out | refine below_set ?_ GE386.out | refine below_set ?_ GE401.out | refine below_set ?_ GE405.out) | exact HB.out)⟩
   (try clear BK385)
   (try clear BK386)
   (try clear BK401)
   (try clear BK405)
   (try clear HB)
   generalize ((w40.setCell ⟨gb405, 0, none⟩ (.int .i64 t402)).setCell ⟨gb405, 1, none⟩ (.int .i64 t403)) = w61 at n0_ n1_ n2_ n3_ n4_ ⊢
   have BK385 := n0_
   have BK386 := n1_
   have BK401 := n2_
   have BK405 := n3_
   have HB := n4_
   clear n0_ n1_ n2_ n3_ n4_
   replace BK385 := Aside0.mk (blk_drew BK385.out); replace BK386 := Aside0.mk (blk_drew BK386.out); replace BK401 := Aside0.mk (blk_drew BK401.out); replace BK405 := Aside0.mk (blk_drew BK405.out); replace HB := Aside0.mk (below_drew1 HB.out)
   refine start_ (n := 17) (S := fun w' => True) (ds := []) #[false, false, false, false, false, false, false, false, false, false, false, false, false, false, false, false, false] (by kernel_rfl) rfl rfl trivial (fun hHeld => ?_); refine with_tabW avermentlaw10_SpanSets.tab5 avermentlaw10_SpanSets.bits5 (fun HT_ HW_ => ?_)
   generalize w61.drew = w62 at BK385 BK386 BK401 BK405 HB hHeld ⊢
   refine one_ (i := 0) (N := some 39) #[true, false, false, false, false, false, false, false, false, false, false, false, false, false, false, false, false] rfl rfl (one_of HT_.out (by kernel_rfl)) (by decide) (fun K hK => ?_)
   refine goes_ Try.func38 (by kernel_rfl) rfl #[] (by rfl) rfl rfl (mapq rfl) ?_
   with_reducible refine (avermentlaw10_told.calls k  false _ A45.out).mono ?_
   rintro e w63 ⟨rfl, hb⟩
   refine ⟨_, rfl, ?_⟩
   replace BK385 := bb BK385 hb rfl; replace BK386 := bb BK386 hb rfl; replace BK401 := bb BK401 hb rfl; replace BK405 := bb BK405 hb rfl; replace HB := hst HB hb rfl
   (try clear hb)
   refine hK.out _ _ trivial (fun hHeld => ?_)
   clear hK K
   refine norm_ (a' := ?_) ?_ ?_
   rotate_left; · (show Act.put _ (some 39) _ = _; simp only [Act.put, List.setIfInBounds_toArray, List.set_cons_zero, List.set_cons_succ, i64_w, i32_w]; rfl)
   refine pure_ (i := 1) (N := some 40) (v := ?_) (a' := ?_) #[true, true, false, false, false, false, false, false, false, false, false, false, false, false, false, false, false] rfl rfl (any_of HT_.out (by kernel_rfl)) (fun _ _ _ h => h) (Or.inl ⟨by rfl, ?_⟩) ?_ ?_
   rotate_left; · (intro w'; go_simp; with_reducible rfl)
   rotate_left; · (simp only [Act.put, List.setIfInBounds_toArray, List.set_cons_zero, List.set_cons_succ, i64_w, i32_w]; rfl)
   refine pure_ (i := 2) (N := some 41) (v := ?_) (a' := ?_) #[true, true, true, false, false, false, false, false, false, false, false, false, false, false, false, false, false] rfl rfl (any_of HT_.out (by kernel_rfl)) (fun _ _ _ h => h) (Or.inl ⟨by rfl, ?_⟩) ?_ ?_
   rotate_left; · (intro w'; go_simp; with_reducible rfl)
   rotate_left; · (simp only [Act.put, List.setIfInBounds_toArray, List.set_cons_zero, List.set_cons_succ, i64_w, i32_w]; rfl)
   refine pure_ (i := 3) (N := some 42) (v := undef) (a' := ?_) #[true, true, true, true, false, false, false, false, false, false, false, false, false, false, false, false, false] rfl rfl (any_of HT_.out (by kernel_rfl)) (fun _ _ _ h => h) (Or.inr ⟨by rfl, rfl⟩) ?_ ?_
   rotate_left
   ·
    simp only [Act.put, List.setIfInBounds_toArray, List.set_cons_zero, List.set_cons_succ, i64_w, i32_w]
    rfl
   refine pure_ (i := 4) (N := some 43) (v := undef) (a' := ?_) #[true, true, true, true, true, false, false, false, false, false, false, false, false, false, false, false, false] rfl rfl (any_of HT_.out (by kernel_rfl)) (fun _ _ _ h => h) (Or.inr ⟨by rfl, rfl⟩) ?_ ?_
   rotate_left
   ·
    simp only [Act.put, List.setIfInBounds_toArray, List.set_cons_zero, List.set_cons_succ, i64_w, i32_w]
    rfl
   refine pure_ (i := 5) (N := some 44) (v := ?_) (a' := ?_) #[true, true, true, true, true, true, false, false, false, false, false, false, false, false, false, false, false] rfl rfl (any_of HT_.out (by kernel_rfl)) (fun _ _ _ h => h) (Or.inl ⟨by rfl, ?_⟩) ?_ ?_
   rotate_left; · (intro w'; go_simp; with_reducible rfl)
   rotate_left; · (simp only [Act.put, List.setIfInBounds_toArray, List.set_cons_zero, List.set_cons_succ, i64_w, i32_w]; rfl)
   refine pure_ (i := 6) (N := some 45) (v := ?_) (a' := ?_) #[true, true, true, true, true, true, true, false, false, false, false, false, false, false, false, false, false] rfl rfl (any_of HT_.out (by kernel_rfl)) (fun _ _ _ h => h) (Or.inl ⟨by rfl, ?_⟩) ?_ ?_
   rotate_left; · (intro w'; go_simp; with_reducible rfl)
   rotate_left; · (simp only [Act.put, List.setIfInBounds_toArray, List.set_cons_zero, List.set_cons_succ, i64_w, i32_w]; rfl)
   refine pure_ (i := 7) (N := some 46) (v := undef) (a' := ?_) #[true, true, true, true, true, true, true, true, false, false, false, false, false, false, false, false, false] rfl rfl (any_of HT_.out (by kernel_rfl)) (fun _ _ _ h => h) (Or.inr ⟨by rfl, rfl⟩) ?_ ?_
   rotate_left
   ·
    simp only [Act.put, List.setIfInBounds_toArray, List.set_cons_zero, List.set_cons_succ, i64_w, i32_w]
    rfl
   refine pure_ (i := 8) (N := some 47) (v := undef) (a' := ?_) #[true, true, true, true, true, true, true, true, true, false, false, false, false, false, false, false, false] rfl rfl (any_of HT_.out (by kernel_rfl)) (fun _ _ _ h => h) (Or.inr ⟨by rfl, rfl⟩) ?_ ?_
   rotate_left
   ·
    simp only [Act.put, List.setIfInBounds_toArray, List.set_cons_zero, List.set_cons_succ, i64_w, i32_w]
    rfl
   refine pure_ (i := 9) (N := some 48) (v := undef) (a' := ?_) #[true, true, true, true, true, true, true, true, true, true, false, false, false, false, false, false, false] rfl rfl (any_of HT_.out (by kernel_rfl)) (fun _ _ _ h => h) (Or.inr ⟨by rfl, rfl⟩) ?_ ?_
   rotate_left
   ·
    simp only [Act.put, List.setIfInBounds_toArray, List.set_cons_zero, List.set_cons_succ, i64_w, i32_w]
    rfl
   refine pure_ (i := 10) (N := some 49) (v := undef) (a' := ?_) #[true, true, true, true, true, true, true, true, true, true, true, false, false, false, false, false, false] rfl rfl (any_of HT_.out (by kernel_rfl)) (fun _ _ _ h => h) (Or.inr ⟨by rfl, rfl⟩) ?_ ?_
   rotate_left
   ·
    simp only [Act.put, List.setIfInBounds_toArray, List.set_cons_zero, List.set_cons_succ, i64_w, i32_w]
    rfl
   refine pure_ (i := 11) (N := some 50) (v := ?_) (a' := ?_) #[true, true, true, true, true, true, true, true, true, true, true, true, false, false, false, false, false] rfl rfl (any_of HT_.out (by kernel_rfl)) (fun _ _ _ h => h) (Or.inl ⟨by rfl, ?_⟩) ?_ ?_
   rotate_left; · (intro w'; go_simp; with_reducible rfl)
   rotate_left; · (simp only [Act.put, List.setIfInBounds_toArray, List.set_cons_zero, List.set_cons_succ, i64_w, i32_w]; rfl)
   refine pure_ (i := 12) (N := some 51) (v := ?_) (a' := ?_) #[true, true, true, true, true, true, true, true, true, true, true, true, true, false, false, false, false] rfl rfl (any_of HT_.out (by kernel_rfl)) (fun _ _ _ h => h) (Or.inl ⟨by rfl, ?_⟩) ?_ ?_
   rotate_left; · (intro w'; go_simp; with_reducible rfl)
   rotate_left; · (simp only [Act.put, List.setIfInBounds_toArray, List.set_cons_zero, List.set_cons_succ, i64_w, i32_w]; rfl)
   refine pure_ (i := 13) (N := some 52) (v := undef) (a' := ?_) #[true, true, true, true, true, true, true, true, true, true, true, true, true, true, false, false, false] rfl rfl (any_of HT_.out (by kernel_rfl)) (fun _ _ _ h => h) (Or.inr ⟨by rfl, rfl⟩) ?_ ?_
   rotate_left
   ·
    simp only [Act.put, List.setIfInBounds_toArray, List.set_cons_zero, List.set_cons_succ, i64_w, i32_w]
    rfl
   refine pure_ (i := 14) (N := some 53) (v := undef) (a' := ?_) #[true, true, true, true, true, true, true, true, true, true, true, true, true, true, true, false, false] rfl rfl (any_of HT_.out (by kernel_rfl)) (fun _ _ _ h => h) (Or.inr ⟨by rfl, rfl⟩) ?_ ?_
   rotate_left
   ·
    simp only [Act.put, List.setIfInBounds_toArray, List.set_cons_zero, List.set_cons_succ, i64_w, i32_w]
    rfl
   refine pure_ (i := 15) (N := some 54) (v := undef) (a' := ?_) #[true, true, true, true, true, true, true, true, true, true, true, true, true, true, true, true, false] rfl rfl (any_of HT_.out (by kernel_rfl)) (fun _ _ _ h => h) (Or.inr ⟨by rfl, rfl⟩) ?_ ?_
   rotate_left
   ·
    simp only [Act.put, List.setIfInBounds_toArray, List.set_cons_zero, List.set_cons_succ, i64_w, i32_w]
    rfl
   refine pure_ (i := 16) (N := some 55) (v := ?_) (a' := ?_) #[true, true, true, true, true, true, true, true, true, true, true, true, true, true, true, true, true] rfl rfl (any_of HT_.out (by kernel_rfl)) (fun _ _ _ h => h) (Or.inl ⟨by rfl, ?_⟩) ?_ ?_
   rotate_left; · (intro w'; go_simp; with_reducible rfl)
   rotate_left; · (simp only [Act.put, List.setIfInBounds_toArray, List.set_cons_zero, List.set_cons_succ, i64_w, i32_w]; rfl)
   refine done_ (done_of HT_.out (by kernel_rfl)) ?_
   try go_wp2
   (first | go_meet | (refine Met.intro ?_; go_step; (repeat apply Exists.intro); refine ⟨?rel, ?eq_⟩; (case eq_ => (rw [c47b0]))))
   case rel => exact ⟨_, (true), (by first | rfl | (simp; done) | (simp [*]; done)), H', ⟨by first | omega | exact Nat.le_refl _⟩, ⟨by (with_reducible repeat (first | refine blk_drewN ?_ _ | refine blk_drew ?_ | refine blk_alloc ?_ _)); exact BK385.out⟩, ⟨by (with_reducible repeat (first | refine blk_drewN ?_ _ | refine blk_drew ?_ | refine blk_alloc ?_ _)); exact BK386.out⟩, ⟨by (with_reducible repeat (first | refine blk_drewN ?_ _ | refine blk_drew ?_ | refine blk_alloc ?_ _)); exact BK401.out⟩, ⟨by (with_reducible repeat (first | refine blk_drewN ?_ _ | refine blk_drew ?_ | refine blk_alloc ?_ _)); exact BK405.out⟩, ⟨by repeat (first | (with_reducible first | exact HB.out | apply below_alloc | apply pw_below_drewN | apply below_drew1 | refine below_set ?_ GE385.out | refine below_set ?_ GE386.out | refine below_set ?_ GE401.out | refine below_set ?_ GE405.out) | exact HB.out)⟩⟩
 case rest =>
  clear HC12
  try clear p2
  try clear c3
  try clear c4
  try clear c38
  try clear c39
  try clear c46
  try clear c47
  try clear c47b0
  try clear c47b1
  try clear c47b2
  try clear c49
  try clear c49b0
  obtain ⟨kq, x55_11, rfl, HA, HJ11, BK385, BK386, BK401, BK405, HB⟩ := hcut
  cases kq with
  | zero => exact absurd HA.out (by simp [avermentlaw10_SpanSets.j0])
  | succ kj11 =>
   have H := HA.out
   clear HA
   simp only [avermentlaw10_SpanSets.j0] at H
   by_cases c64 : x55_11 = true
   ·
    subst c64
    rw [if_pos rfl] at H
    exact absurd ((Option.some.inj H).trans hr_.out) (by decide)
   ·
    replace c64 := Bool.eq_false_iff.mpr c64
    subst c64
    rw [if_neg (show ¬ (false = true) by decide)] at H
    replace H := Option.bind_eq_some_iff.mp H
    obtain ⟨⟨t409, t410⟩, A650, H⟩ := H
    (try dsimp only at H)
    have A65 := Aside0.mk A650
    clear A650
    replace H := Option.bind_eq_some_iff.mp H
    obtain ⟨⟨t411, t412⟩, A660, H⟩ := H
    (try dsimp only at H)
    have A66 := Aside0.mk A660
    clear A660
    by_cases c67 : (t411 == a2 && (t412 == a2)) = true
    ·
     rw [if_pos c67] at H
     have c67b0 : (t411 == a2 && (t412 == a2)) = true := c67
     (try (have c67b1 : decide (t411 = a2 && (t412 == a2)) = true := by simpa using c67))
     (try (have c67b2 : (t411 == a2 && (t412 == a2)) = true := by simpa using c67))
     clear c67
     replace H := Option.bind_eq_some_iff.mp H
     obtain ⟨⟨t413, t414⟩, A680, H⟩ := H
     (try dsimp only at H)
     have A68 := Aside0.mk A680
     clear A680
     replace H := Option.bind_eq_some_iff.mp H
     obtain ⟨⟨t415, t416⟩, A690, H⟩ := H
     (try dsimp only at H)
     have A69 := Aside0.mk A690
     clear A690
     replace H := Option.bind_eq_some_iff.mp H
     obtain ⟨⟨t417, t418⟩, A700, H⟩ := H
     (try dsimp only at H)
     have A70 := Aside0.mk A700
     clear A700
     by_cases c71 : (t415 == t417 && (t416 == t418)) = true
     ·
      rw [if_pos c71] at H
      have c71b0 : (t415 == t417 && (t416 == t418)) = true := c71
      (try (have c71b1 : decide (t415 = t417 && (t416 == t418)) = true := by simpa using c71))
      (try (have c71b2 : (t415 == t417 && (t416 == t418)) = true := by simpa using c71))
      clear c71
      replace H := Option.bind_eq_some_iff.mp H
      obtain ⟨⟨t419, t420⟩, A720, H⟩ := H
      (try dsimp only at H)
      have A72 := Aside0.mk A720
      clear A720
      replace H := Option.bind_eq_some_iff.mp H
      obtain ⟨t421, A730, H⟩ := H
      (try dsimp only at H)
      have A73 := Aside0.mk A730
      clear A730
      replace H := Option.bind_eq_some_iff.mp H
      obtain ⟨t422, A740, H⟩ := H
      (try dsimp only at H)
      have A74 := Aside0.mk A740
      clear A740
      by_cases c75 : (t421 == t422) = true
      ·
       rw [if_pos c75] at H
       have c75b0 : (t421 == t422) = true := c75
       (try (have c75b1 : decide (t421 = t422) = true := by simpa using c75))
       (try (have c75b2 : (t421 == t422) = true := by simpa using c75))
       clear c75
       replace H := Option.bind_eq_some_iff.mp H
       obtain ⟨⟨t423, t424⟩, A760, H⟩ := H
       (try dsimp only at H)
       have A76 := Aside0.mk A760
       clear A760
       replace H := Option.bind_eq_some_iff.mp H
       obtain ⟨⟨t425, t426⟩, A770, H⟩ := H
       (try dsimp only at H)
       have A77 := Aside0.mk A770
       clear A770
       replace H := Option.bind_eq_some_iff.mp H
       obtain ⟨⟨t427, t428⟩, A780, H⟩ := H
       (try dsimp only at H)
       have A78 := Aside0.mk A780
       clear A780
       replace H := Option.bind_eq_some_iff.mp H
       obtain ⟨⟨t429, t430⟩, A790, H⟩ := H
       (try dsimp only at H)
       have A79 := Aside0.mk A790
       clear A790
       replace H := Option.bind_eq_some_iff.mp H
       obtain ⟨⟨t431, t432⟩, A800, H⟩ := H
       (try dsimp only at H)
       have A80 := Aside0.mk A800
       clear A800
       by_cases c81 : (t429 == t431 && (t430 == t432)) = true
       ·
        rw [if_pos c81] at H
        have c81b0 : (t429 == t431 && (t430 == t432)) = true := c81
        (try (have c81b1 : decide (t429 = t431 && (t430 == t432)) = true := by simpa using c81))
        (try (have c81b2 : (t429 == t431 && (t430 == t432)) = true := by simpa using c81))
        clear c81
        replace H := Option.bind_eq_some_iff.mp H
        obtain ⟨⟨t433, t434⟩, A820, H⟩ := H
        (try dsimp only at H)
        have A82 := Aside0.mk A820
        clear A820
        replace H := Option.bind_eq_some_iff.mp H
        obtain ⟨⟨t435, t436⟩, A830, H⟩ := H
        (try dsimp only at H)
        have A83 := Aside0.mk A830
        clear A830
        replace H := Option.bind_eq_some_iff.mp H
        obtain ⟨t437, A840, H⟩ := H
        (try dsimp only at H)
        have A84 := Aside0.mk A840
        clear A840
        replace H := Option.bind_eq_some_iff.mp H
        obtain ⟨t438, A850, H⟩ := H
        (try dsimp only at H)
        have A85 := Aside0.mk A850
        clear A850
        by_cases c86 : (t437 == t438) = true
        ·
         rw [if_pos c86] at H
         have c86b0 : (t437 == t438) = true := c86
         (try (have c86b1 : decide (t437 = t438) = true := by simpa using c86))
         (try (have c86b2 : (t437 == t438) = true := by simpa using c86))
         clear c86
         replace H := Option.bind_eq_some_iff.mp H
         obtain ⟨⟨t439, t440⟩, A870, H⟩ := H
         (try dsimp only at H)
         have A87 := Aside0.mk A870
         clear A870
         replace H := Option.bind_eq_some_iff.mp H
         obtain ⟨⟨t441, t442⟩, A880, H⟩ := H
         (try dsimp only at H)
         have A88 := Aside0.mk A880
         clear A880
         replace H := Option.bind_eq_some_iff.mp H
         obtain ⟨⟨t443, t444⟩, A890, H⟩ := H
         (try dsimp only at H)
         have A89 := Aside0.mk A890
         clear A890
         replace H := Option.bind_eq_some_iff.mp H
         obtain ⟨⟨t445, t446⟩, A900, H⟩ := H
         (try dsimp only at H)
         have A90 := Aside0.mk A900
         clear A900
         replace H := Option.bind_eq_some_iff.mp H
         obtain ⟨⟨t447, t448⟩, A910, H⟩ := H
         (try dsimp only at H)
         have A91 := Aside0.mk A910
         clear A910
         obtain rfl := Option.some.inj H
         try go_wp2
         replace BK385 := Aside0.mk (blk_drew BK385.out); replace BK386 := Aside0.mk (blk_drew BK386.out); replace BK401 := Aside0.mk (blk_drew BK401.out); replace BK405 := Aside0.mk (blk_drew BK405.out); replace HB := Aside0.mk (below_drew1 HB.out)
         refine start_ (n := 59) (S := fun w' => w'.cell? ⟨gb385, 0, none⟩ = some (.int .i64 t390) ∧ w'.cell? ⟨gb385, 1, none⟩ = some (.int .i64 t391) ∧ w'.cell? ⟨gb386, 0, none⟩ = some (.int .i64 t392) ∧ w'.cell? ⟨gb386, 1, none⟩ = some (.int .i64 t393)) (ds := []) #[false, false, false, false, false, false, false, false, false, false, false, false, false, false, false, false, false, false, false, false, false, false, false, false, false, false, false, false, false, false, false, false, false, false, false, false, false, false, false, false, false, false, false, false, false, false, false, false, false, false, false, false, false, false, false, false, false, false, false] (by kernel_rfl) rfl rfl ⟨bc BK385 0 rfl, bc BK385 1 rfl, bc BK386 0 rfl, bc BK386 1 rfl⟩ (fun hHeld => ?_); refine with_tabW avermentlaw10_SpanSets.tab7 avermentlaw10_SpanSets.bits7 (fun HT_ HW_ => ?_)
         generalize wc.drew = w92 at BK385 BK386 BK401 BK405 HB hHeld ⊢
         refine pure_ (i := 0) (N := some 56) (v := ?_) (a' := ?_) #[true, false, false, false, false, false, false, false, false, false, false, false, false, false, false, false, false, false, false, false, false, false, false, false, false, false, false, false, false, false, false, false, false, false, false, false, false, false, false, false, false, false, false, false, false, false, false, false, false, false, false, false, false, false, false, false, false, false, false] rfl rfl (any_of HT_.out (by kernel_rfl)) (fun _ _ _ h => h) (Or.inl ⟨by rfl, ?_⟩) ?_ ?_
         rotate_left; · (intro w'; go_simp; with_reducible rfl)
         rotate_left; · (simp only [Act.put, List.setIfInBounds_toArray, List.set_cons_zero, List.set_cons_succ, i64_w, i32_w]; rfl)
         refine pure_ (i := 3) (N := some 59) (v := ?_) (a' := ?_) #[true, false, false, true, false, false, false, false, false, false, false, false, false, false, false, false, false, false, false, false, false, false, false, false, false, false, false, false, false, false, false, false, false, false, false, false, false, false, false, false, false, false, false, false, false, false, false, false, false, false, false, false, false, false, false, false, false, false, false] rfl rfl (any_of HT_.out (by kernel_rfl)) (fun _ _ _ h => h) (Or.inl ⟨by rfl, ?_⟩) ?_ ?_
         rotate_left; · (intro w'; go_simp; with_reducible rfl)
         rotate_left; · (simp only [Act.put, List.setIfInBounds_toArray, List.set_cons_zero, List.set_cons_succ, i64_w, i32_w]; rfl)
         refine pure_ (i := 4) (N := some 60) (v := ?_) (a' := ?_) #[true, false, false, true, true, false, false, false, false, false, false, false, false, false, false, false, false, false, false, false, false, false, false, false, false, false, false, false, false, false, false, false, false, false, false, false, false, false, false, false, false, false, false, false, false, false, false, false, false, false, false, false, false, false, false, false, false, false, false] rfl rfl (any_of HT_.out (by kernel_rfl)) (fun _ _ _ h => h) (Or.inl ⟨by rfl, ?_⟩) ?_ ?_
         rotate_left; · (intro w'; go_simp; with_reducible rfl)
         rotate_left; · (simp only [Act.put, List.setIfInBounds_toArray, List.set_cons_zero, List.set_cons_succ, i64_w, i32_w]; rfl)
         refine pure_ (i := 5) (N := some 61) (v := ?_) (a' := ?_) #[true, false, false, true, true, true, false, false, false, false, false, false, false, false, false, false, false, false, false, false, false, false, false, false, false, false, false, false, false, false, false, false, false, false, false, false, false, false, false, false, false, false, false, false, false, false, false, false, false, false, false, false, false, false, false, false, false, false, false] rfl rfl (any_of HT_.out (by kernel_rfl)) (fun _ _ _ h => h) (Or.inl ⟨by rfl, ?_⟩) ?_ ?_
         rotate_left; · (intro w'; go_simp; with_reducible rfl)
         rotate_left; · (simp only [Act.put, List.setIfInBounds_toArray, List.set_cons_zero, List.set_cons_succ, i64_w, i32_w]; rfl)
         refine one_ (i := 1) (N := some 57) #[true, true, false, true, true, true, false, false, false, false, false, false, false, false, false, false, false, false, false, false, false, false, false, false, false, false, false, false, false, false, false, false, false, false, false, false, false, false, false, false, false, false, false, false, false, false, false, false, false, false, false, false, false, false, false, false, false, false, false] rfl rfl (one_of HT_.out (by kernel_rfl)) (by decide) (fun K hK => ?_)
         refine goes_ Try.func45 (by kernel_rfl) rfl #[.int .i64 a2] (by rfl) rfl rfl (mapq rfl) ?_
         with_reducible refine (span_Of.calls a2 t409 t410 _ A65.out).mono ?_
         rintro e w93 ⟨rfl, hb⟩
         refine ⟨_, rfl, ?_⟩
         replace BK385 := bb BK385 hb rfl; replace BK386 := bb BK386 hb rfl; replace BK401 := bb BK401 hb rfl; replace BK405 := bb BK405 hb rfl; replace HB := hst HB hb rfl
         (try clear hb)
         refine hK.out _ _ ⟨bc BK385 0 rfl, bc BK385 1 rfl, bc BK386 0 rfl, bc BK386 1 rfl⟩ (fun hHeld => ?_)
         clear hK K
         refine norm_ (a' := ?_) ?_ ?_
         rotate_left; · (show Act.put _ (some 57) _ = _; simp only [Act.put, List.setIfInBounds_toArray, List.set_cons_zero, List.set_cons_succ, i64_w, i32_w]; rfl)
         refine one_ (i := 2) (N := some 58) #[true, true, true, true, true, true, false, false, false, false, false, false, false, false, false, false, false, false, false, false, false, false, false, false, false, false, false, false, false, false, false, false, false, false, false, false, false, false, false, false, false, false, false, false, false, false, false, false, false, false, false, false, false, false, false, false, false, false, false] rfl rfl (one_of HT_.out (by kernel_rfl)) (by decide) (fun K hK => ?_)
         refine goes_ Try.func39 (by kernel_rfl) rfl #[.agg #[.int .i64 t409, .int .i64 t410]] (by rfl) rfl rfl (mapq rfl) ?_
         with_reducible refine (avermentlaw10_From.calls t409 t410 t411 t412 _ A66.out).mono ?_
         rintro e w94 ⟨rfl, hb⟩
         refine ⟨_, rfl, ?_⟩
         replace BK385 := bb BK385 hb rfl; replace BK386 := bb BK386 hb rfl; replace BK401 := bb BK401 hb rfl; replace BK405 := bb BK405 hb rfl; replace HB := hst HB hb rfl
         (try clear hb)
         refine hK.out _ _ ⟨bc BK385 0 rfl, bc BK385 1 rfl, bc BK386 0 rfl, bc BK386 1 rfl⟩ (fun hHeld => ?_)
         clear hK K
         refine norm_ (a' := ?_) ?_ ?_
         rotate_left; · (show Act.put _ (some 58) _ = _; simp only [Act.put, List.setIfInBounds_toArray, List.set_cons_zero, List.set_cons_succ, i64_w, i32_w]; rfl)
         refine pure_ (i := 6) (N := some 62) (v := ?_) (a' := ?_) #[true, true, true, true, true, true, true, false, false, false, false, false, false, false, false, false, false, false, false, false, false, false, false, false, false, false, false, false, false, false, false, false, false, false, false, false, false, false, false, false, false, false, false, false, false, false, false, false, false, false, false, false, false, false, false, false, false, false, false] rfl rfl (any_of HT_.out (by kernel_rfl)) (fun _ _ _ h => h) (Or.inl ⟨by rfl, ?_⟩) ?_ ?_
         rotate_left; · (intro w'; go_simp; with_reducible rfl)
         rotate_left; · (simp only [Act.put, List.setIfInBounds_toArray, List.set_cons_zero, List.set_cons_succ, i64_w, i32_w]; rfl)
         refine pure_ (i := 7) (N := some 63) (v := ?_) (a' := ?_) #[true, true, true, true, true, true, true, true, false, false, false, false, false, false, false, false, false, false, false, false, false, false, false, false, false, false, false, false, false, false, false, false, false, false, false, false, false, false, false, false, false, false, false, false, false, false, false, false, false, false, false, false, false, false, false, false, false, false, false] rfl rfl (any_of HT_.out (by kernel_rfl)) (fun _ _ _ h => h) (Or.inl ⟨by rfl, ?_⟩) ?_ ?_
         rotate_left; · (intro w'; go_simp; with_reducible rfl)
         rotate_left; · (simp only [Act.put, List.setIfInBounds_toArray, List.set_cons_zero, List.set_cons_succ, i64_w, i32_w]; rfl)
         refine one_ (i := 8) (N := some 64) #[true, true, true, true, true, true, true, true, true, false, false, false, false, false, false, false, false, false, false, false, false, false, false, false, false, false, false, false, false, false, false, false, false, false, false, false, false, false, false, false, false, false, false, false, false, false, false, false, false, false, false, false, false, false, false, false, false, false, false] rfl rfl (one_of HT_.out (by kernel_rfl)) (by decide) (fun K hK => ?_)
         refine goes_ Try.func46 (by kernel_rfl) rfl #[] (by rfl) rfl rfl (mapq rfl) ?_
         with_reducible refine (span_Any.calls  t413 t414 _ A68.out).mono ?_
         rintro e w95 ⟨rfl, hb⟩
         refine ⟨_, rfl, ?_⟩
         replace BK385 := bb BK385 hb rfl; replace BK386 := bb BK386 hb rfl; replace BK401 := bb BK401 hb rfl; replace BK405 := bb BK405 hb rfl; replace HB := hst HB hb rfl
         (try clear hb)
         refine hK.out _ _ ⟨bc BK385 0 rfl, bc BK385 1 rfl, bc BK386 0 rfl, bc BK386 1 rfl⟩ (fun hHeld => ?_)
         clear hK K
         refine norm_ (a' := ?_) ?_ ?_
         rotate_left; · (show Act.put _ (some 64) _ = _; simp only [Act.put, List.setIfInBounds_toArray, List.set_cons_zero, List.set_cons_succ, i64_w, i32_w]; rfl)
         refine one_ (i := 9) (N := some 65) #[true, true, true, true, true, true, true, true, true, true, false, false, false, false, false, false, false, false, false, false, false, false, false, false, false, false, false, false, false, false, false, false, false, false, false, false, false, false, false, false, false, false, false, false, false, false, false, false, false, false, false, false, false, false, false, false, false, false, false] rfl rfl (one_of HT_.out (by kernel_rfl)) (by decide) (fun K hK => ?_)
         refine goes_ Try.func39 (by kernel_rfl) rfl #[.agg #[.int .i64 t413, .int .i64 t414]] (by rfl) rfl rfl (mapq rfl) ?_
         with_reducible refine (avermentlaw10_From.calls t413 t414 t415 t416 _ A69.out).mono ?_
         rintro e w96 ⟨rfl, hb⟩
         refine ⟨_, rfl, ?_⟩
         replace BK385 := bb BK385 hb rfl; replace BK386 := bb BK386 hb rfl; replace BK401 := bb BK401 hb rfl; replace BK405 := bb BK405 hb rfl; replace HB := hst HB hb rfl
         (try clear hb)
         refine hK.out _ _ ⟨bc BK385 0 rfl, bc BK385 1 rfl, bc BK386 0 rfl, bc BK386 1 rfl⟩ (fun hHeld => ?_)
         clear hK K
         refine norm_ (a' := ?_) ?_ ?_
         rotate_left; · (show Act.put _ (some 65) _ = _; simp only [Act.put, List.setIfInBounds_toArray, List.set_cons_zero, List.set_cons_succ, i64_w, i32_w]; rfl)
         refine one_ (i := 10) (N := some 66) #[true, true, true, true, true, true, true, true, true, true, true, false, false, false, false, false, false, false, false, false, false, false, false, false, false, false, false, false, false, false, false, false, false, false, false, false, false, false, false, false, false, false, false, false, false, false, false, false, false, false, false, false, false, false, false, false, false, false, false] rfl rfl (one_of HT_.out (by kernel_rfl)) (by decide) (fun K hK => ?_)
         refine goes_ Try.func40 (by kernel_rfl) rfl #[] (by rfl) rfl rfl (mapq rfl) ?_
         with_reducible refine (avermentref10_Any.calls  t417 t418 _ A70.out).mono ?_
         rintro e w97 ⟨rfl, hb⟩
         refine ⟨_, rfl, ?_⟩
         replace BK385 := bb BK385 hb rfl; replace BK386 := bb BK386 hb rfl; replace BK401 := bb BK401 hb rfl; replace BK405 := bb BK405 hb rfl; replace HB := hst HB hb rfl
         (try clear hb)
         refine hK.out _ _ ⟨bc BK385 0 rfl, bc BK385 1 rfl, bc BK386 0 rfl, bc BK386 1 rfl⟩ (fun hHeld => ?_)
         clear hK K
         refine norm_ (a' := ?_) ?_ ?_
         rotate_left; · (show Act.put _ (some 66) _ = _; simp only [Act.put, List.setIfInBounds_toArray, List.set_cons_zero, List.set_cons_succ, i64_w, i32_w]; rfl)
         refine pure_ (i := 11) (N := some 67) (v := ?_) (a' := ?_) #[true, true, true, true, true, true, true, true, true, true, true, true, false, false, false, false, false, false, false, false, false, false, false, false, false, false, false, false, false, false, false, false, false, false, false, false, false, false, false, false, false, false, false, false, false, false, false, false, false, false, false, false, false, false, false, false, false, false, false] rfl rfl (any_of HT_.out (by kernel_rfl)) (fun _ _ _ h => h) (Or.inl ⟨by rfl, ?_⟩) ?_ ?_
         rotate_left; · (intro w'; go_simp; with_reducible rfl)
         rotate_left; · (simp only [Act.put, List.setIfInBounds_toArray, List.set_cons_zero, List.set_cons_succ, i64_w, i32_w]; rfl)
         refine pure_ (i := 12) (N := some 68) (v := ?_) (a' := ?_) #[true, true, true, true, true, true, true, true, true, true, true, true, true, false, false, false, false, false, false, false, false, false, false, false, false, false, false, false, false, false, false, false, false, false, false, false, false, false, false, false, false, false, false, false, false, false, false, false, false, false, false, false, false, false, false, false, false, false, false] rfl rfl (any_of HT_.out (by kernel_rfl)) (fun _ _ _ h => h) (Or.inl ⟨by rfl, ?_⟩) ?_ ?_
         rotate_left; · (intro w'; go_simp; with_reducible rfl)
         rotate_left; · (simp only [Act.put, List.setIfInBounds_toArray, List.set_cons_zero, List.set_cons_succ, i64_w, i32_w]; rfl)
         refine pure_ (i := 13) (N := some 69) (v := ?_) (a' := ?_) #[true, true, true, true, true, true, true, true, true, true, true, true, true, true, false, false, false, false, false, false, false, false, false, false, false, false, false, false, false, false, false, false, false, false, false, false, false, false, false, false, false, false, false, false, false, false, false, false, false, false, false, false, false, false, false, false, false, false, false] rfl rfl (any_of HT_.out (by kernel_rfl)) (fun _ _ _ h => h) (Or.inl ⟨by rfl, ?_⟩) ?_ ?_
         rotate_left; · (intro w'; go_simp; with_reducible rfl)
         rotate_left; · (simp only [Act.put, List.setIfInBounds_toArray, List.set_cons_zero, List.set_cons_succ, i64_w, i32_w]; rfl)
         refine pure_ (i := 16) (N := some 72) (v := ?_) (a' := ?_) #[true, true, true, true, true, true, true, true, true, true, true, true, true, true, false, false, true, false, false, false, false, false, false, false, false, false, false, false, false, false, false, false, false, false, false, false, false, false, false, false, false, false, false, false, false, false, false, false, false, false, false, false, false, false, false, false, false, false, false] rfl rfl (any_of HT_.out (by kernel_rfl)) (fun _ _ _ h => h) (Or.inl ⟨by rfl, ?_⟩) ?_ ?_
         rotate_left; · (intro w'; go_simp; with_reducible rfl)
         rotate_left; · (simp only [Act.put, List.setIfInBounds_toArray, List.set_cons_zero, List.set_cons_succ, i64_w, i32_w]; rfl)
         refine pure_ (i := 19) (N := some 75) (v := ?_) (a' := ?_) #[true, true, true, true, true, true, true, true, true, true, true, true, true, true, false, false, true, false, false, true, false, false, false, false, false, false, false, false, false, false, false, false, false, false, false, false, false, false, false, false, false, false, false, false, false, false, false, false, false, false, false, false, false, false, false, false, false, false, false] rfl rfl (any_of HT_.out (by kernel_rfl)) (fun _ _ _ h => h) (Or.inl ⟨by rfl, ?_⟩) ?_ ?_
         rotate_left; · (intro w'; go_simp; with_reducible rfl)
         rotate_left; · (simp only [Act.put, List.setIfInBounds_toArray, List.set_cons_zero, List.set_cons_succ, i64_w, i32_w]; rfl)
         refine take_ (i := 14) (N := some 70) (v := ?_) (a' := ?_) #[true, true, true, true, true, true, true, true, true, true, true, true, true, true, true, false, true, false, false, true, false, false, false, false, false, false, false, false, false, false, false, false, false, false, false, false, false, false, false, false, false, false, false, false, false, false, false, false, false, false, false, false, false, false, false, false, false, false, false] rfl rfl (take_ofW HT_.out HW_.out (by kernel_rfl)) (fun _ _ _ h => h) (Or.inl ⟨by rfl, ?_⟩) hHeld ?_ ?_
         rotate_left
         ·
          rintro w' ⟨s0, s1, s2, s3⟩
          go_simp
          with_reducible rfl
         rotate_left
         ·
          simp only [Act.put, List.setIfInBounds_toArray, List.set_cons_zero, List.set_cons_succ, i64_w, i32_w]
          rfl
         refine take_ (i := 18) (N := some 74) (v := ?_) (a' := ?_) #[true, true, true, true, true, true, true, true, true, true, true, true, true, true, true, false, true, false, true, true, false, false, false, false, false, false, false, false, false, false, false, false, false, false, false, false, false, false, false, false, false, false, false, false, false, false, false, false, false, false, false, false, false, false, false, false, false, false, false] rfl rfl (take_ofW HT_.out HW_.out (by kernel_rfl)) (fun _ _ _ h => h) (Or.inl ⟨by rfl, ?_⟩) hHeld ?_ ?_
         rotate_left
         ·
          rintro w' ⟨s0, s1, s2, s3⟩
          go_simp
          with_reducible rfl
         rotate_left
         ·
          simp only [Act.put, List.setIfInBounds_toArray, List.set_cons_zero, List.set_cons_succ, i64_w, i32_w]
          rfl
         refine one_ (i := 15) (N := some 71) #[true, true, true, true, true, true, true, true, true, true, true, true, true, true, true, true, true, false, true, true, false, false, false, false, false, false, false, false, false, false, false, false, false, false, false, false, false, false, false, false, false, false, false, false, false, false, false, false, false, false, false, false, false, false, false, false, false, false, false] rfl rfl (one_of HT_.out (by kernel_rfl)) (by decide) (fun K hK => ?_)
         refine goes_ Try.func37 (by kernel_rfl) rfl #[.agg #[.int .i64 t390, .int .i64 t391]] (by rfl) rfl rfl (mapq rfl) ?_
         with_reducible refine (avermentlaw10_To.calls t390 t391 t419 t420 _ A72.out).mono ?_
         rintro e w98 ⟨rfl, hb⟩
         refine ⟨_, rfl, ?_⟩
         replace BK385 := bb BK385 hb rfl; replace BK386 := bb BK386 hb rfl; replace BK401 := bb BK401 hb rfl; replace BK405 := bb BK405 hb rfl; replace HB := hst HB hb rfl
         (try clear hb)
         refine hK.out _ _ ⟨bc BK385 0 rfl, bc BK385 1 rfl, bc BK386 0 rfl, bc BK386 1 rfl⟩ (fun hHeld => ?_)
         clear hK K
         refine norm_ (a' := ?_) ?_ ?_
         rotate_left; · (show Act.put _ (some 71) _ = _; simp only [Act.put, List.setIfInBounds_toArray, List.set_cons_zero, List.set_cons_succ, i64_w, i32_w]; rfl)
         refine one_ (i := 17) (N := some 73) #[true, true, true, true, true, true, true, true, true, true, true, true, true, true, true, true, true, true, true, true, false, false, false, false, false, false, false, false, false, false, false, false, false, false, false, false, false, false, false, false, false, false, false, false, false, false, false, false, false, false, false, false, false, false, false, false, false, false, false] rfl rfl (one_of HT_.out (by kernel_rfl)) (by decide) (fun K hK => ?_)
         refine goes_ Try.func47 (by kernel_rfl) rfl #[.agg #[.int .i64 t419, .int .i64 t420], .int .i64 a2] (by rfl) rfl rfl (mapq rfl) ?_
         with_reducible refine (span_Has.calls t419 t420 a2 t421 _ A73.out).mono ?_
         rintro e w99 ⟨rfl, hb⟩
         refine ⟨_, rfl, ?_⟩
         replace BK385 := bb BK385 hb rfl; replace BK386 := bb BK386 hb rfl; replace BK401 := bb BK401 hb rfl; replace BK405 := bb BK405 hb rfl; replace HB := hst HB hb rfl
         (try clear hb)
         refine hK.out _ _ ⟨bc BK385 0 rfl, bc BK385 1 rfl, bc BK386 0 rfl, bc BK386 1 rfl⟩ (fun hHeld => ?_)
         clear hK K
         refine norm_ (a' := ?_) ?_ ?_
         rotate_left; · (show Act.put _ (some 73) _ = _; simp only [Act.put, List.setIfInBounds_toArray, List.set_cons_zero, List.set_cons_succ, i64_w, i32_w]; rfl)
         refine one_ (i := 20) (N := some 76) #[true, true, true, true, true, true, true, true, true, true, true, true, true, true, true, true, true, true, true, true, true, false, false, false, false, false, false, false, false, false, false, false, false, false, false, false, false, false, false, false, false, false, false, false, false, false, false, false, false, false, false, false, false, false, false, false, false, false, false] rfl rfl (one_of HT_.out (by kernel_rfl)) (by decide) (fun K hK => ?_)
         refine goes_ Try.func41 (by kernel_rfl) rfl #[.agg #[.int .i64 t390, .int .i64 t391], .int .i64 a2] (by rfl) rfl rfl (mapq rfl) ?_
         with_reducible refine (avermentref10_Has.calls t390 t391 a2 t422 _ A74.out).mono ?_
         rintro e w100 ⟨rfl, hb⟩
         refine ⟨_, rfl, ?_⟩
         replace BK385 := bb BK385 hb rfl; replace BK386 := bb BK386 hb rfl; replace BK401 := bb BK401 hb rfl; replace BK405 := bb BK405 hb rfl; replace HB := hst HB hb rfl
         (try clear hb)
         refine hK.out _ _ ⟨bc BK385 0 rfl, bc BK385 1 rfl, bc BK386 0 rfl, bc BK386 1 rfl⟩ (fun hHeld => ?_)
         clear hK K
         refine norm_ (a' := ?_) ?_ ?_
         rotate_left; · (show Act.put _ (some 76) _ = _; simp only [Act.put, List.setIfInBounds_toArray, List.set_cons_zero, List.set_cons_succ, i64_w, i32_w]; rfl)
         refine pure_ (i := 21) (N := some 77) (v := ?_) (a' := ?_) #[true, true, true, true, true, true, true, true, true, true, true, true, true, true, true, true, true, true, true, true, true, true, false, false, false, false, false, false, false, false, false, false, false, false, false, false, false, false, false, false, false, false, false, false, false, false, false, false, false, false, false, false, false, false, false, false, false, false, false] rfl rfl (any_of HT_.out (by kernel_rfl)) (fun _ _ _ h => h) (Or.inl ⟨by rfl, ?_⟩) ?_ ?_
         rotate_left; · (intro w'; go_simp; with_reducible rfl)
         rotate_left; · (simp only [Act.put, List.setIfInBounds_toArray, List.set_cons_zero, List.set_cons_succ, i64_w, i32_w]; rfl)
         refine pure_ (i := 22) (N := some 78) (v := ?_) (a' := ?_) #[true, true, true, true, true, true, true, true, true, true, true, true, true, true, true, true, true, true, true, true, true, true, true, false, false, false, false, false, false, false, false, false, false, false, false, false, false, false, false, false, false, false, false, false, false, false, false, false, false, false, false, false, false, false, false, false, false, false, false] rfl rfl (any_of HT_.out (by kernel_rfl)) (fun _ _ _ h => h) (Or.inl ⟨by rfl, ?_⟩) ?_ ?_
         rotate_left; · (intro w'; go_simp; with_reducible rfl)
         rotate_left; · (simp only [Act.put, List.setIfInBounds_toArray, List.set_cons_zero, List.set_cons_succ, i64_w, i32_w]; rfl)
         refine pure_ (i := 23) (N := some 79) (v := ?_) (a' := ?_) #[true, true, true, true, true, true, true, true, true, true, true, true, true, true, true, true, true, true, true, true, true, true, true, true, false, false, false, false, false, false, false, false, false, false, false, false, false, false, false, false, false, false, false, false, false, false, false, false, false, false, false, false, false, false, false, false, false, false, false] rfl rfl (any_of HT_.out (by kernel_rfl)) (fun _ _ _ h => h) (Or.inl ⟨by rfl, ?_⟩) ?_ ?_
         rotate_left; · (intro w'; go_simp; with_reducible rfl)
         rotate_left; · (simp only [Act.put, List.setIfInBounds_toArray, List.set_cons_zero, List.set_cons_succ, i64_w, i32_w]; rfl)
         refine take_ (i := 24) (N := some 80) (v := ?_) (a' := ?_) #[true, true, true, true, true, true, true, true, true, true, true, true, true, true, true, true, true, true, true, true, true, true, true, true, true, false, false, false, false, false, false, false, false, false, false, false, false, false, false, false, false, false, false, false, false, false, false, false, false, false, false, false, false, false, false, false, false, false, false] rfl rfl (take_ofW HT_.out HW_.out (by kernel_rfl)) (fun _ _ _ h => h) (Or.inl ⟨by rfl, ?_⟩) hHeld ?_ ?_
         rotate_left
         ·
          rintro w' ⟨s0, s1, s2, s3⟩
          go_simp
          with_reducible rfl
         rotate_left
         ·
          simp only [Act.put, List.setIfInBounds_toArray, List.set_cons_zero, List.set_cons_succ, i64_w, i32_w]
          rfl
         refine take_ (i := 26) (N := some 82) (v := ?_) (a' := ?_) #[true, true, true, true, true, true, true, true, true, true, true, true, true, true, true, true, true, true, true, true, true, true, true, true, true, false, true, false, false, false, false, false, false, false, false, false, false, false, false, false, false, false, false, false, false, false, false, false, false, false, false, false, false, false, false, false, false, false, false] rfl rfl (take_ofW HT_.out HW_.out (by kernel_rfl)) (fun _ _ _ h => h) (Or.inl ⟨by rfl, ?_⟩) hHeld ?_ ?_
         rotate_left
         ·
          rintro w' ⟨s0, s1, s2, s3⟩
          go_simp
          with_reducible rfl
         rotate_left
         ·
          simp only [Act.put, List.setIfInBounds_toArray, List.set_cons_zero, List.set_cons_succ, i64_w, i32_w]
          rfl
         refine take_ (i := 30) (N := some 86) (v := ?_) (a' := ?_) #[true, true, true, true, true, true, true, true, true, true, true, true, true, true, true, true, true, true, true, true, true, true, true, true, true, false, true, false, false, false, true, false, false, false, false, false, false, false, false, false, false, false, false, false, false, false, false, false, false, false, false, false, false, false, false, false, false, false, false] rfl rfl (take_ofW HT_.out HW_.out (by kernel_rfl)) (fun _ _ _ h => h) (Or.inl ⟨by rfl, ?_⟩) hHeld ?_ ?_
         rotate_left
         ·
          rintro w' ⟨s0, s1, s2, s3⟩
          go_simp
          with_reducible rfl
         rotate_left
         ·
          simp only [Act.put, List.setIfInBounds_toArray, List.set_cons_zero, List.set_cons_succ, i64_w, i32_w]
          rfl
         refine take_ (i := 31) (N := some 87) (v := ?_) (a' := ?_) #[true, true, true, true, true, true, true, true, true, true, true, true, true, true, true, true, true, true, true, true, true, true, true, true, true, false, true, false, false, false, true, true, false, false, false, false, false, false, false, false, false, false, false, false, false, false, false, false, false, false, false, false, false, false, false, false, false, false, false] rfl rfl (take_ofW HT_.out HW_.out (by kernel_rfl)) (fun _ _ _ h => h) (Or.inl ⟨by rfl, ?_⟩) hHeld ?_ ?_
         rotate_left
         ·
          rintro w' ⟨s0, s1, s2, s3⟩
          go_simp
          with_reducible rfl
         rotate_left
         ·
          simp only [Act.put, List.setIfInBounds_toArray, List.set_cons_zero, List.set_cons_succ, i64_w, i32_w]
          rfl
         refine one_ (i := 25) (N := some 81) #[true, true, true, true, true, true, true, true, true, true, true, true, true, true, true, true, true, true, true, true, true, true, true, true, true, true, true, false, false, false, true, true, false, false, false, false, false, false, false, false, false, false, false, false, false, false, false, false, false, false, false, false, false, false, false, false, false, false, false] rfl rfl (one_of HT_.out (by kernel_rfl)) (by decide) (fun K hK => ?_)
         refine goes_ Try.func37 (by kernel_rfl) rfl #[.agg #[.int .i64 t390, .int .i64 t391]] (by rfl) rfl rfl (mapq rfl) ?_
         with_reducible refine (avermentlaw10_To.calls t390 t391 t423 t424 _ A76.out).mono ?_
         rintro e w101 ⟨rfl, hb⟩
         refine ⟨_, rfl, ?_⟩
         replace BK385 := bb BK385 hb rfl; replace BK386 := bb BK386 hb rfl; replace BK401 := bb BK401 hb rfl; replace BK405 := bb BK405 hb rfl; replace HB := hst HB hb rfl
         (try clear hb)
         refine hK.out _ _ ⟨bc BK385 0 rfl, bc BK385 1 rfl, bc BK386 0 rfl, bc BK386 1 rfl⟩ (fun hHeld => ?_)
         clear hK K
         refine norm_ (a' := ?_) ?_ ?_
         rotate_left; · (show Act.put _ (some 81) _ = _; simp only [Act.put, List.setIfInBounds_toArray, List.set_cons_zero, List.set_cons_succ, i64_w, i32_w]; rfl)
         refine one_ (i := 27) (N := some 83) #[true, true, true, true, true, true, true, true, true, true, true, true, true, true, true, true, true, true, true, true, true, true, true, true, true, true, true, true, false, false, true, true, false, false, false, false, false, false, false, false, false, false, false, false, false, false, false, false, false, false, false, false, false, false, false, false, false, false, false] rfl rfl (one_of HT_.out (by kernel_rfl)) (by decide) (fun K hK => ?_)
         refine goes_ Try.func37 (by kernel_rfl) rfl #[.agg #[.int .i64 t392, .int .i64 t393]] (by rfl) rfl rfl (mapq rfl) ?_
         with_reducible refine (avermentlaw10_To.calls t392 t393 t425 t426 _ A77.out).mono ?_
         rintro e w102 ⟨rfl, hb⟩
         refine ⟨_, rfl, ?_⟩
         replace BK385 := bb BK385 hb rfl; replace BK386 := bb BK386 hb rfl; replace BK401 := bb BK401 hb rfl; replace BK405 := bb BK405 hb rfl; replace HB := hst HB hb rfl
         (try clear hb)
         refine hK.out _ _ ⟨bc BK385 0 rfl, bc BK385 1 rfl, bc BK386 0 rfl, bc BK386 1 rfl⟩ (fun hHeld => ?_)
         clear hK K
         refine norm_ (a' := ?_) ?_ ?_
         rotate_left; · (show Act.put _ (some 83) _ = _; simp only [Act.put, List.setIfInBounds_toArray, List.set_cons_zero, List.set_cons_succ, i64_w, i32_w]; rfl)
         refine one_ (i := 28) (N := some 84) #[true, true, true, true, true, true, true, true, true, true, true, true, true, true, true, true, true, true, true, true, true, true, true, true, true, true, true, true, true, false, true, true, false, false, false, false, false, false, false, false, false, false, false, false, false, false, false, false, false, false, false, false, false, false, false, false, false, false, false] rfl rfl (one_of HT_.out (by kernel_rfl)) (by decide) (fun K hK => ?_)
         refine goes_ Try.func48 (by kernel_rfl) rfl #[.agg #[.int .i64 t423, .int .i64 t424], .agg #[.int .i64 t425, .int .i64 t426]] (by rfl) rfl rfl (mapq rfl) ?_
         with_reducible refine (span_Join.calls t423 t424 t425 t426 t427 t428 _ A78.out).mono ?_
         rintro e w103 ⟨rfl, hb⟩
         refine ⟨_, rfl, ?_⟩
         replace BK385 := bb BK385 hb rfl; replace BK386 := bb BK386 hb rfl; replace BK401 := bb BK401 hb rfl; replace BK405 := bb BK405 hb rfl; replace HB := hst HB hb rfl
         (try clear hb)
         refine hK.out _ _ ⟨bc BK385 0 rfl, bc BK385 1 rfl, bc BK386 0 rfl, bc BK386 1 rfl⟩ (fun hHeld => ?_)
         clear hK K
         refine norm_ (a' := ?_) ?_ ?_
         rotate_left; · (show Act.put _ (some 84) _ = _; simp only [Act.put, List.setIfInBounds_toArray, List.set_cons_zero, List.set_cons_succ, i64_w, i32_w]; rfl)
         refine one_ (i := 29) (N := some 85) #[true, true, true, true, true, true, true, true, true, true, true, true, true, true, true, true, true, true, true, true, true, true, true, true, true, true, true, true, true, true, true, true, false, false, false, false, false, false, false, false, false, false, false, false, false, false, false, false, false, false, false, false, false, false, false, false, false, false, false] rfl rfl (one_of HT_.out (by kernel_rfl)) (by decide) (fun K hK => ?_)
         refine goes_ Try.func39 (by kernel_rfl) rfl #[.agg #[.int .i64 t427, .int .i64 t428]] (by rfl) rfl rfl (mapq rfl) ?_
         with_reducible refine (avermentlaw10_From.calls t427 t428 t429 t430 _ A79.out).mono ?_
         rintro e w104 ⟨rfl, hb⟩
         refine ⟨_, rfl, ?_⟩
         replace BK385 := bb BK385 hb rfl; replace BK386 := bb BK386 hb rfl; replace BK401 := bb BK401 hb rfl; replace BK405 := bb BK405 hb rfl; replace HB := hst HB hb rfl
         (try clear hb)
         refine hK.out _ _ ⟨bc BK385 0 rfl, bc BK385 1 rfl, bc BK386 0 rfl, bc BK386 1 rfl⟩ (fun hHeld => ?_)
         clear hK K
         refine norm_ (a' := ?_) ?_ ?_
         rotate_left; · (show Act.put _ (some 85) _ = _; simp only [Act.put, List.setIfInBounds_toArray, List.set_cons_zero, List.set_cons_succ, i64_w, i32_w]; rfl)
         refine one_ (i := 32) (N := some 88) #[true, true, true, true, true, true, true, true, true, true, true, true, true, true, true, true, true, true, true, true, true, true, true, true, true, true, true, true, true, true, true, true, true, false, false, false, false, false, false, false, false, false, false, false, false, false, false, false, false, false, false, false, false, false, false, false, false, false, false] rfl rfl (one_of HT_.out (by kernel_rfl)) (by decide) (fun K hK => ?_)
         refine goes_ Try.func49 (by kernel_rfl) rfl #[.agg #[.int .i64 t390, .int .i64 t391], .agg #[.int .i64 t392, .int .i64 t393]] (by rfl) rfl rfl (mapq rfl) ?_
         with_reducible refine (avermentref10_Join.calls t390 t391 t392 t393 t431 t432 _ A80.out).mono ?_
         rintro e w105 ⟨rfl, hb⟩
         refine ⟨_, rfl, ?_⟩
         replace BK385 := bb BK385 hb rfl; replace BK386 := bb BK386 hb rfl; replace BK401 := bb BK401 hb rfl; replace BK405 := bb BK405 hb rfl; replace HB := hst HB hb rfl
         (try clear hb)
         refine hK.out _ _ ⟨bc BK385 0 rfl, bc BK385 1 rfl, bc BK386 0 rfl, bc BK386 1 rfl⟩ (fun hHeld => ?_)
         clear hK K
         refine norm_ (a' := ?_) ?_ ?_
         rotate_left; · (show Act.put _ (some 88) _ = _; simp only [Act.put, List.setIfInBounds_toArray, List.set_cons_zero, List.set_cons_succ, i64_w, i32_w]; rfl)
         refine pure_ (i := 33) (N := some 89) (v := ?_) (a' := ?_) #[true, true, true, true, true, true, true, true, true, true, true, true, true, true, true, true, true, true, true, true, true, true, true, true, true, true, true, true, true, true, true, true, true, true, false, false, false, false, false, false, false, false, false, false, false, false, false, false, false, false, false, false, false, false, false, false, false, false, false] rfl rfl (any_of HT_.out (by kernel_rfl)) (fun _ _ _ h => h) (Or.inl ⟨by rfl, ?_⟩) ?_ ?_
         rotate_left; · (intro w'; go_simp; with_reducible rfl)
         rotate_left; · (simp only [Act.put, List.setIfInBounds_toArray, List.set_cons_zero, List.set_cons_succ, i64_w, i32_w]; rfl)
         refine pure_ (i := 34) (N := some 90) (v := ?_) (a' := ?_) #[true, true, true, true, true, true, true, true, true, true, true, true, true, true, true, true, true, true, true, true, true, true, true, true, true, true, true, true, true, true, true, true, true, true, true, false, false, false, false, false, false, false, false, false, false, false, false, false, false, false, false, false, false, false, false, false, false, false, false] rfl rfl (any_of HT_.out (by kernel_rfl)) (fun _ _ _ h => h) (Or.inl ⟨by rfl, ?_⟩) ?_ ?_
         rotate_left; · (intro w'; go_simp; with_reducible rfl)
         rotate_left; · (simp only [Act.put, List.setIfInBounds_toArray, List.set_cons_zero, List.set_cons_succ, i64_w, i32_w]; rfl)
         refine pure_ (i := 35) (N := some 91) (v := ?_) (a' := ?_) #[true, true, true, true, true, true, true, true, true, true, true, true, true, true, true, true, true, true, true, true, true, true, true, true, true, true, true, true, true, true, true, true, true, true, true, true, false, false, false, false, false, false, false, false, false, false, false, false, false, false, false, false, false, false, false, false, false, false, false] rfl rfl (any_of HT_.out (by kernel_rfl)) (fun _ _ _ h => h) (Or.inl ⟨by rfl, ?_⟩) ?_ ?_
         rotate_left; · (intro w'; go_simp; with_reducible rfl)
         rotate_left; · (simp only [Act.put, List.setIfInBounds_toArray, List.set_cons_zero, List.set_cons_succ, i64_w, i32_w]; rfl)
         refine take_ (i := 36) (N := some 92) (v := ?_) (a' := ?_) #[true, true, true, true, true, true, true, true, true, true, true, true, true, true, true, true, true, true, true, true, true, true, true, true, true, true, true, true, true, true, true, true, true, true, true, true, true, false, false, false, false, false, false, false, false, false, false, false, false, false, false, false, false, false, false, false, false, false, false] rfl rfl (take_ofW HT_.out HW_.out (by kernel_rfl)) (fun _ _ _ h => h) (Or.inl ⟨by rfl, ?_⟩) hHeld ?_ ?_
         rotate_left
         ·
          rintro w' ⟨s0, s1, s2, s3⟩
          go_simp
          with_reducible rfl
         rotate_left
         ·
          simp only [Act.put, List.setIfInBounds_toArray, List.set_cons_zero, List.set_cons_succ, i64_w, i32_w]
          rfl
         refine take_ (i := 38) (N := some 94) (v := ?_) (a' := ?_) #[true, true, true, true, true, true, true, true, true, true, true, true, true, true, true, true, true, true, true, true, true, true, true, true, true, true, true, true, true, true, true, true, true, true, true, true, true, false, true, false, false, false, false, false, false, false, false, false, false, false, false, false, false, false, false, false, false, false, false] rfl rfl (take_ofW HT_.out HW_.out (by kernel_rfl)) (fun _ _ _ h => h) (Or.inl ⟨by rfl, ?_⟩) hHeld ?_ ?_
         rotate_left
         ·
          rintro w' ⟨s0, s1, s2, s3⟩
          go_simp
          with_reducible rfl
         rotate_left
         ·
          simp only [Act.put, List.setIfInBounds_toArray, List.set_cons_zero, List.set_cons_succ, i64_w, i32_w]
          rfl
         refine take_ (i := 41) (N := some 97) (v := ?_) (a' := ?_) #[true, true, true, true, true, true, true, true, true, true, true, true, true, true, true, true, true, true, true, true, true, true, true, true, true, true, true, true, true, true, true, true, true, true, true, true, true, false, true, false, false, true, false, false, false, false, false, false, false, false, false, false, false, false, false, false, false, false, false] rfl rfl (take_ofW HT_.out HW_.out (by kernel_rfl)) (fun _ _ _ h => h) (Or.inl ⟨by rfl, ?_⟩) hHeld ?_ ?_
         rotate_left
         ·
          rintro w' ⟨s0, s1, s2, s3⟩
          go_simp
          with_reducible rfl
         rotate_left
         ·
          simp only [Act.put, List.setIfInBounds_toArray, List.set_cons_zero, List.set_cons_succ, i64_w, i32_w]
          rfl
         refine take_ (i := 42) (N := some 98) (v := ?_) (a' := ?_) #[true, true, true, true, true, true, true, true, true, true, true, true, true, true, true, true, true, true, true, true, true, true, true, true, true, true, true, true, true, true, true, true, true, true, true, true, true, false, true, false, false, true, true, false, false, false, false, false, false, false, false, false, false, false, false, false, false, false, false] rfl rfl (take_ofW HT_.out HW_.out (by kernel_rfl)) (fun _ _ _ h => h) (Or.inl ⟨by rfl, ?_⟩) hHeld ?_ ?_
         rotate_left
         ·
          rintro w' ⟨s0, s1, s2, s3⟩
          go_simp
          with_reducible rfl
         rotate_left
         ·
          simp only [Act.put, List.setIfInBounds_toArray, List.set_cons_zero, List.set_cons_succ, i64_w, i32_w]
          rfl
         refine one_ (i := 37) (N := some 93) #[true, true, true, true, true, true, true, true, true, true, true, true, true, true, true, true, true, true, true, true, true, true, true, true, true, true, true, true, true, true, true, true, true, true, true, true, true, true, true, false, false, true, true, false, false, false, false, false, false, false, false, false, false, false, false, false, false, false, false] rfl rfl (one_of HT_.out (by kernel_rfl)) (by decide) (fun K hK => ?_)
         refine goes_ Try.func37 (by kernel_rfl) rfl #[.agg #[.int .i64 t390, .int .i64 t391]] (by rfl) rfl rfl (mapq rfl) ?_
         with_reducible refine (avermentlaw10_To.calls t390 t391 t433 t434 _ A82.out).mono ?_
         rintro e w106 ⟨rfl, hb⟩
         refine ⟨_, rfl, ?_⟩
         replace BK385 := bb BK385 hb rfl; replace BK386 := bb BK386 hb rfl; replace BK401 := bb BK401 hb rfl; replace BK405 := bb BK405 hb rfl; replace HB := hst HB hb rfl
         (try clear hb)
         refine hK.out _ _ ⟨bc BK385 0 rfl, bc BK385 1 rfl, bc BK386 0 rfl, bc BK386 1 rfl⟩ (fun hHeld => ?_)
         clear hK K
         refine norm_ (a' := ?_) ?_ ?_
         rotate_left; · (show Act.put _ (some 93) _ = _; simp only [Act.put, List.setIfInBounds_toArray, List.set_cons_zero, List.set_cons_succ, i64_w, i32_w]; rfl)
         refine one_ (i := 39) (N := some 95) #[true, true, true, true, true, true, true, true, true, true, true, true, true, true, true, true, true, true, true, true, true, true, true, true, true, true, true, true, true, true, true, true, true, true, true, true, true, true, true, true, false, true, true, false, false, false, false, false, false, false, false, false, false, false, false, false, false, false, false] rfl rfl (one_of HT_.out (by kernel_rfl)) (by decide) (fun K hK => ?_)
         refine goes_ Try.func37 (by kernel_rfl) rfl #[.agg #[.int .i64 t392, .int .i64 t393]] (by rfl) rfl rfl (mapq rfl) ?_
         with_reducible refine (avermentlaw10_To.calls t392 t393 t435 t436 _ A83.out).mono ?_
         rintro e w107 ⟨rfl, hb⟩
         refine ⟨_, rfl, ?_⟩
         replace BK385 := bb BK385 hb rfl; replace BK386 := bb BK386 hb rfl; replace BK401 := bb BK401 hb rfl; replace BK405 := bb BK405 hb rfl; replace HB := hst HB hb rfl
         (try clear hb)
         refine hK.out _ _ ⟨bc BK385 0 rfl, bc BK385 1 rfl, bc BK386 0 rfl, bc BK386 1 rfl⟩ (fun hHeld => ?_)
         clear hK K
         refine norm_ (a' := ?_) ?_ ?_
         rotate_left; · (show Act.put _ (some 95) _ = _; simp only [Act.put, List.setIfInBounds_toArray, List.set_cons_zero, List.set_cons_succ, i64_w, i32_w]; rfl)
         refine one_ (i := 40) (N := some 96) #[true, true, true, true, true, true, true, true, true, true, true, true, true, true, true, true, true, true, true, true, true, true, true, true, true, true, true, true, true, true, true, true, true, true, true, true, true, true, true, true, true, true, true, false, false, false, false, false, false, false, false, false, false, false, false, false, false, false, false] rfl rfl (one_of HT_.out (by kernel_rfl)) (by decide) (fun K hK => ?_)
         refine goes_ Try.func50 (by kernel_rfl) rfl #[.agg #[.int .i64 t433, .int .i64 t434], .agg #[.int .i64 t435, .int .i64 t436]] (by rfl) rfl rfl (mapq rfl) ?_
         with_reducible refine (span_Within.calls t433 t434 t435 t436 t437 _ A84.out).mono ?_
         rintro e w108 ⟨rfl, hb⟩
         refine ⟨_, rfl, ?_⟩
         replace BK385 := bb BK385 hb rfl; replace BK386 := bb BK386 hb rfl; replace BK401 := bb BK401 hb rfl; replace BK405 := bb BK405 hb rfl; replace HB := hst HB hb rfl
         (try clear hb)
         refine hK.out _ _ ⟨bc BK385 0 rfl, bc BK385 1 rfl, bc BK386 0 rfl, bc BK386 1 rfl⟩ (fun hHeld => ?_)
         clear hK K
         refine norm_ (a' := ?_) ?_ ?_
         rotate_left; · (show Act.put _ (some 96) _ = _; simp only [Act.put, List.setIfInBounds_toArray, List.set_cons_zero, List.set_cons_succ, i64_w, i32_w]; rfl)
         refine one_ (i := 43) (N := some 99) #[true, true, true, true, true, true, true, true, true, true, true, true, true, true, true, true, true, true, true, true, true, true, true, true, true, true, true, true, true, true, true, true, true, true, true, true, true, true, true, true, true, true, true, true, false, false, false, false, false, false, false, false, false, false, false, false, false, false, false] rfl rfl (one_of HT_.out (by kernel_rfl)) (by decide) (fun K hK => ?_)
         refine goes_ Try.func51 (by kernel_rfl) rfl #[.agg #[.int .i64 t390, .int .i64 t391], .agg #[.int .i64 t392, .int .i64 t393]] (by rfl) rfl rfl (mapq rfl) ?_
         with_reducible refine (avermentref10_Within.calls t390 t391 t392 t393 t438 _ A85.out).mono ?_
         rintro e w109 ⟨rfl, hb⟩
         refine ⟨_, rfl, ?_⟩
         replace BK385 := bb BK385 hb rfl; replace BK386 := bb BK386 hb rfl; replace BK401 := bb BK401 hb rfl; replace BK405 := bb BK405 hb rfl; replace HB := hst HB hb rfl
         (try clear hb)
         refine hK.out _ _ ⟨bc BK385 0 rfl, bc BK385 1 rfl, bc BK386 0 rfl, bc BK386 1 rfl⟩ (fun hHeld => ?_)
         clear hK K
         refine norm_ (a' := ?_) ?_ ?_
         rotate_left; · (show Act.put _ (some 99) _ = _; simp only [Act.put, List.setIfInBounds_toArray, List.set_cons_zero, List.set_cons_succ, i64_w, i32_w]; rfl)
         refine pure_ (i := 44) (N := some 100) (v := ?_) (a' := ?_) #[true, true, true, true, true, true, true, true, true, true, true, true, true, true, true, true, true, true, true, true, true, true, true, true, true, true, true, true, true, true, true, true, true, true, true, true, true, true, true, true, true, true, true, true, true, false, false, false, false, false, false, false, false, false, false, false, false, false, false] rfl rfl (any_of HT_.out (by kernel_rfl)) (fun _ _ _ h => h) (Or.inl ⟨by rfl, ?_⟩) ?_ ?_
         rotate_left; · (intro w'; go_simp; with_reducible rfl)
         rotate_left; · (simp only [Act.put, List.setIfInBounds_toArray, List.set_cons_zero, List.set_cons_succ, i64_w, i32_w]; rfl)
         refine pure_ (i := 45) (N := some 101) (v := ?_) (a' := ?_) #[true, true, true, true, true, true, true, true, true, true, true, true, true, true, true, true, true, true, true, true, true, true, true, true, true, true, true, true, true, true, true, true, true, true, true, true, true, true, true, true, true, true, true, true, true, true, false, false, false, false, false, false, false, false, false, false, false, false, false] rfl rfl (any_of HT_.out (by kernel_rfl)) (fun _ _ _ h => h) (Or.inl ⟨by rfl, ?_⟩) ?_ ?_
         rotate_left; · (intro w'; go_simp; with_reducible rfl)
         rotate_left; · (simp only [Act.put, List.setIfInBounds_toArray, List.set_cons_zero, List.set_cons_succ, i64_w, i32_w]; rfl)
         refine pure_ (i := 46) (N := some 102) (v := ?_) (a' := ?_) #[true, true, true, true, true, true, true, true, true, true, true, true, true, true, true, true, true, true, true, true, true, true, true, true, true, true, true, true, true, true, true, true, true, true, true, true, true, true, true, true, true, true, true, true, true, true, true, false, false, false, false, false, false, false, false, false, false, false, false] rfl rfl (any_of HT_.out (by kernel_rfl)) (fun _ _ _ h => h) (Or.inl ⟨by rfl, ?_⟩) ?_ ?_
         rotate_left; · (intro w'; go_simp; with_reducible rfl)
         rotate_left; · (simp only [Act.put, List.setIfInBounds_toArray, List.set_cons_zero, List.set_cons_succ, i64_w, i32_w]; rfl)
         refine take_ (i := 47) (N := some 103) (v := ?_) (a' := ?_) #[true, true, true, true, true, true, true, true, true, true, true, true, true, true, true, true, true, true, true, true, true, true, true, true, true, true, true, true, true, true, true, true, true, true, true, true, true, true, true, true, true, true, true, true, true, true, true, true, false, false, false, false, false, false, false, false, false, false, false] rfl rfl (take_ofW HT_.out HW_.out (by kernel_rfl)) (fun _ _ _ h => h) (Or.inl ⟨by rfl, ?_⟩) hHeld ?_ ?_
         rotate_left
         ·
          rintro w' ⟨s0, s1, s2, s3⟩
          go_simp
          with_reducible rfl
         rotate_left
         ·
          simp only [Act.put, List.setIfInBounds_toArray, List.set_cons_zero, List.set_cons_succ, i64_w, i32_w]
          rfl
         refine take_ (i := 49) (N := some 105) (v := ?_) (a' := ?_) #[true, true, true, true, true, true, true, true, true, true, true, true, true, true, true, true, true, true, true, true, true, true, true, true, true, true, true, true, true, true, true, true, true, true, true, true, true, true, true, true, true, true, true, true, true, true, true, true, false, true, false, false, false, false, false, false, false, false, false] rfl rfl (take_ofW HT_.out HW_.out (by kernel_rfl)) (fun _ _ _ h => h) (Or.inl ⟨by rfl, ?_⟩) hHeld ?_ ?_
         rotate_left
         ·
          rintro w' ⟨s0, s1, s2, s3⟩
          go_simp
          with_reducible rfl
         rotate_left
         ·
          simp only [Act.put, List.setIfInBounds_toArray, List.set_cons_zero, List.set_cons_succ, i64_w, i32_w]
          rfl
         refine take_ (i := 53) (N := some 109) (v := ?_) (a' := ?_) #[true, true, true, true, true, true, true, true, true, true, true, true, true, true, true, true, true, true, true, true, true, true, true, true, true, true, true, true, true, true, true, true, true, true, true, true, true, true, true, true, true, true, true, true, true, true, true, true, false, true, false, false, false, true, false, false, false, false, false] rfl rfl (take_ofW HT_.out HW_.out (by kernel_rfl)) (fun _ _ _ h => h) (Or.inl ⟨by rfl, ?_⟩) hHeld ?_ ?_
         rotate_left
         ·
          rintro w' ⟨s0, s1, s2, s3⟩
          go_simp
          with_reducible rfl
         rotate_left
         ·
          simp only [Act.put, List.setIfInBounds_toArray, List.set_cons_zero, List.set_cons_succ, i64_w, i32_w]
          rfl
         refine take_ (i := 54) (N := some 110) (v := ?_) (a' := ?_) #[true, true, true, true, true, true, true, true, true, true, true, true, true, true, true, true, true, true, true, true, true, true, true, true, true, true, true, true, true, true, true, true, true, true, true, true, true, true, true, true, true, true, true, true, true, true, true, true, false, true, false, false, false, true, true, false, false, false, false] rfl rfl (take_ofW HT_.out HW_.out (by kernel_rfl)) (fun _ _ _ h => h) (Or.inl ⟨by rfl, ?_⟩) hHeld ?_ ?_
         rotate_left
         ·
          rintro w' ⟨s0, s1, s2, s3⟩
          go_simp
          with_reducible rfl
         rotate_left
         ·
          simp only [Act.put, List.setIfInBounds_toArray, List.set_cons_zero, List.set_cons_succ, i64_w, i32_w]
          rfl
         refine one_ (i := 48) (N := some 104) #[true, true, true, true, true, true, true, true, true, true, true, true, true, true, true, true, true, true, true, true, true, true, true, true, true, true, true, true, true, true, true, true, true, true, true, true, true, true, true, true, true, true, true, true, true, true, true, true, true, true, false, false, false, true, true, false, false, false, false] rfl rfl (one_of HT_.out (by kernel_rfl)) (by decide) (fun K hK => ?_)
         refine goes_ Try.func37 (by kernel_rfl) rfl #[.agg #[.int .i64 t390, .int .i64 t391]] (by rfl) rfl rfl (mapq rfl) ?_
         with_reducible refine (avermentlaw10_To.calls t390 t391 t439 t440 _ A87.out).mono ?_
         rintro e w110 ⟨rfl, hb⟩
         refine ⟨_, rfl, ?_⟩
         replace BK385 := bb BK385 hb rfl; replace BK386 := bb BK386 hb rfl; replace BK401 := bb BK401 hb rfl; replace BK405 := bb BK405 hb rfl; replace HB := hst HB hb rfl
         (try clear hb)
         refine hK.out _ _ ⟨bc BK385 0 rfl, bc BK385 1 rfl, bc BK386 0 rfl, bc BK386 1 rfl⟩ (fun hHeld => ?_)
         clear hK K
         refine norm_ (a' := ?_) ?_ ?_
         rotate_left; · (show Act.put _ (some 104) _ = _; simp only [Act.put, List.setIfInBounds_toArray, List.set_cons_zero, List.set_cons_succ, i64_w, i32_w]; rfl)
         refine one_ (i := 50) (N := some 106) #[true, true, true, true, true, true, true, true, true, true, true, true, true, true, true, true, true, true, true, true, true, true, true, true, true, true, true, true, true, true, true, true, true, true, true, true, true, true, true, true, true, true, true, true, true, true, true, true, true, true, true, false, false, true, true, false, false, false, false] rfl rfl (one_of HT_.out (by kernel_rfl)) (by decide) (fun K hK => ?_)
         refine goes_ Try.func37 (by kernel_rfl) rfl #[.agg #[.int .i64 t392, .int .i64 t393]] (by rfl) rfl rfl (mapq rfl) ?_
         with_reducible refine (avermentlaw10_To.calls t392 t393 t441 t442 _ A88.out).mono ?_
         rintro e w111 ⟨rfl, hb⟩
         refine ⟨_, rfl, ?_⟩
         replace BK385 := bb BK385 hb rfl; replace BK386 := bb BK386 hb rfl; replace BK401 := bb BK401 hb rfl; replace BK405 := bb BK405 hb rfl; replace HB := hst HB hb rfl
         (try clear hb)
         refine hK.out _ _ ⟨bc BK385 0 rfl, bc BK385 1 rfl, bc BK386 0 rfl, bc BK386 1 rfl⟩ (fun hHeld => ?_)
         clear hK K
         refine norm_ (a' := ?_) ?_ ?_
         rotate_left; · (show Act.put _ (some 106) _ = _; simp only [Act.put, List.setIfInBounds_toArray, List.set_cons_zero, List.set_cons_succ, i64_w, i32_w]; rfl)
         refine one_ (i := 51) (N := some 107) #[true, true, true, true, true, true, true, true, true, true, true, true, true, true, true, true, true, true, true, true, true, true, true, true, true, true, true, true, true, true, true, true, true, true, true, true, true, true, true, true, true, true, true, true, true, true, true, true, true, true, true, true, false, true, true, false, false, false, false] rfl rfl (one_of HT_.out (by kernel_rfl)) (by decide) (fun K hK => ?_)
         refine goes_ Try.func52 (by kernel_rfl) rfl #[.agg #[.int .i64 t439, .int .i64 t440], .agg #[.int .i64 t441, .int .i64 t442]] (by rfl) rfl rfl (mapq rfl) ?_
         with_reducible refine (span_Widen.calls t439 t440 t441 t442 t443 t444 _ A89.out).mono ?_
         rintro e w112 ⟨rfl, hb⟩
         refine ⟨_, rfl, ?_⟩
         replace BK385 := bb BK385 hb rfl; replace BK386 := bb BK386 hb rfl; replace BK401 := bb BK401 hb rfl; replace BK405 := bb BK405 hb rfl; replace HB := hst HB hb rfl
         (try clear hb)
         refine hK.out _ _ ⟨bc BK385 0 rfl, bc BK385 1 rfl, bc BK386 0 rfl, bc BK386 1 rfl⟩ (fun hHeld => ?_)
         clear hK K
         refine norm_ (a' := ?_) ?_ ?_
         rotate_left; · (show Act.put _ (some 107) _ = _; simp only [Act.put, List.setIfInBounds_toArray, List.set_cons_zero, List.set_cons_succ, i64_w, i32_w]; rfl)
         refine one_ (i := 52) (N := some 108) #[true, true, true, true, true, true, true, true, true, true, true, true, true, true, true, true, true, true, true, true, true, true, true, true, true, true, true, true, true, true, true, true, true, true, true, true, true, true, true, true, true, true, true, true, true, true, true, true, true, true, true, true, true, true, true, false, false, false, false] rfl rfl (one_of HT_.out (by kernel_rfl)) (by decide) (fun K hK => ?_)
         refine goes_ Try.func39 (by kernel_rfl) rfl #[.agg #[.int .i64 t443, .int .i64 t444]] (by rfl) rfl rfl (mapq rfl) ?_
         with_reducible refine (avermentlaw10_From.calls t443 t444 t445 t446 _ A90.out).mono ?_
         rintro e w113 ⟨rfl, hb⟩
         refine ⟨_, rfl, ?_⟩
         replace BK385 := bb BK385 hb rfl; replace BK386 := bb BK386 hb rfl; replace BK401 := bb BK401 hb rfl; replace BK405 := bb BK405 hb rfl; replace HB := hst HB hb rfl
         (try clear hb)
         refine hK.out _ _ ⟨bc BK385 0 rfl, bc BK385 1 rfl, bc BK386 0 rfl, bc BK386 1 rfl⟩ (fun hHeld => ?_)
         clear hK K
         refine norm_ (a' := ?_) ?_ ?_
         rotate_left; · (show Act.put _ (some 108) _ = _; simp only [Act.put, List.setIfInBounds_toArray, List.set_cons_zero, List.set_cons_succ, i64_w, i32_w]; rfl)
         refine one_ (i := 55) (N := some 111) #[true, true, true, true, true, true, true, true, true, true, true, true, true, true, true, true, true, true, true, true, true, true, true, true, true, true, true, true, true, true, true, true, true, true, true, true, true, true, true, true, true, true, true, true, true, true, true, true, true, true, true, true, true, true, true, true, false, false, false] rfl rfl (one_of HT_.out (by kernel_rfl)) (by decide) (fun K hK => ?_)
         refine goes_ Try.func53 (by kernel_rfl) rfl #[.agg #[.int .i64 t390, .int .i64 t391], .agg #[.int .i64 t392, .int .i64 t393]] (by rfl) rfl rfl (mapq rfl) ?_
         with_reducible refine (avermentref10_Widen.calls t390 t391 t392 t393 t447 t448 _ A91.out).mono ?_
         rintro e w114 ⟨rfl, hb⟩
         refine ⟨_, rfl, ?_⟩
         replace BK385 := bb BK385 hb rfl; replace BK386 := bb BK386 hb rfl; replace BK401 := bb BK401 hb rfl; replace BK405 := bb BK405 hb rfl; replace HB := hst HB hb rfl
         (try clear hb)
         refine hK.out _ _ ⟨bc BK385 0 rfl, bc BK385 1 rfl, bc BK386 0 rfl, bc BK386 1 rfl⟩ (fun hHeld => ?_)
         clear hK K
         refine norm_ (a' := ?_) ?_ ?_
         rotate_left; · (show Act.put _ (some 111) _ = _; simp only [Act.put, List.setIfInBounds_toArray, List.set_cons_zero, List.set_cons_succ, i64_w, i32_w]; rfl)
         refine pure_ (i := 56) (N := some 112) (v := ?_) (a' := ?_) #[true, true, true, true, true, true, true, true, true, true, true, true, true, true, true, true, true, true, true, true, true, true, true, true, true, true, true, true, true, true, true, true, true, true, true, true, true, true, true, true, true, true, true, true, true, true, true, true, true, true, true, true, true, true, true, true, true, false, false] rfl rfl (any_of HT_.out (by kernel_rfl)) (fun _ _ _ h => h) (Or.inl ⟨by rfl, ?_⟩) ?_ ?_
         rotate_left; · (intro w'; go_simp; with_reducible rfl)
         rotate_left; · (simp only [Act.put, List.setIfInBounds_toArray, List.set_cons_zero, List.set_cons_succ, i64_w, i32_w]; rfl)
         refine pure_ (i := 57) (N := some 113) (v := ?_) (a' := ?_) #[true, true, true, true, true, true, true, true, true, true, true, true, true, true, true, true, true, true, true, true, true, true, true, true, true, true, true, true, true, true, true, true, true, true, true, true, true, true, true, true, true, true, true, true, true, true, true, true, true, true, true, true, true, true, true, true, true, true, false] rfl rfl (any_of HT_.out (by kernel_rfl)) (fun _ _ _ h => h) (Or.inl ⟨by rfl, ?_⟩) ?_ ?_
         rotate_left; · (intro w'; go_simp; with_reducible rfl)
         rotate_left; · (simp only [Act.put, List.setIfInBounds_toArray, List.set_cons_zero, List.set_cons_succ, i64_w, i32_w]; rfl)
         refine pure_ (i := 58) (N := some 6) (v := ?_) (a' := ?_) #[true, true, true, true, true, true, true, true, true, true, true, true, true, true, true, true, true, true, true, true, true, true, true, true, true, true, true, true, true, true, true, true, true, true, true, true, true, true, true, true, true, true, true, true, true, true, true, true, true, true, true, true, true, true, true, true, true, true, true] rfl rfl (any_of HT_.out (by kernel_rfl)) (fun _ _ _ h => h) (Or.inl ⟨by rfl, ?_⟩) ?_ ?_
         rotate_left; · (intro w'; go_simp; with_reducible rfl)
         rotate_left; · (simp only [Act.put, List.setIfInBounds_toArray, List.set_cons_zero, List.set_cons_succ, i64_w, i32_w]; rfl)
         refine done_ (done_of HT_.out (by kernel_rfl)) ?_
         try go_wp2
         go_ret
         exact ⟨by first | rfl | (simp [errW_none, errW_some] <;> rfl) | (simp [*, errW_none, errW_some] <;> rfl), by repeat (first | (with_reducible first | exact HB.out | apply below_alloc | apply pw_below_drewN | apply below_drew1 | refine below_set ?_ GE385.out | refine below_set ?_ GE386.out | refine below_set ?_ GE401.out | refine below_set ?_ GE405.out) | exact HB.out)⟩
        ·
         rw [if_neg c86] at H
         have c86b0 : (t437 == t438) = false := by simpa using c86
         (try (have c86b1 : decide (t437 = t438) = false := by simpa using c86))
         (try (have c86b2 : (t437 == t438) = false := by simpa using c86))
         (try (have c86b3 : ¬ (t437 = t438) := by simpa using c86))
         clear c86
         exact absurd ((Option.some.inj H).trans hr_.out) (by decide)
       ·
        rw [if_neg c81] at H
        have c81b0 : (t429 == t431 && (t430 == t432)) = false := by simpa using c81
        (try (have c81b1 : decide (t429 = t431 && (t430 == t432)) = false := by simpa using c81))
        (try (have c81b2 : (t429 == t431 && (t430 == t432)) = false := by simpa using c81))
        (try (have c81b3 : ¬ (t429 = t431 && (t430 == t432)) := by simpa using c81))
        clear c81
        exact absurd ((Option.some.inj H).trans hr_.out) (by decide)
      ·
       rw [if_neg c75] at H
       have c75b0 : (t421 == t422) = false := by simpa using c75
       (try (have c75b1 : decide (t421 = t422) = false := by simpa using c75))
       (try (have c75b2 : (t421 == t422) = false := by simpa using c75))
       (try (have c75b3 : ¬ (t421 = t422) := by simpa using c75))
       clear c75
       exact absurd ((Option.some.inj H).trans hr_.out) (by decide)
     ·
      rw [if_neg c71] at H
      have c71b0 : (t415 == t417 && (t416 == t418)) = false := by simpa using c71
      (try (have c71b1 : decide (t415 = t417 && (t416 == t418)) = false := by simpa using c71))
      (try (have c71b2 : (t415 == t417 && (t416 == t418)) = false := by simpa using c71))
      (try (have c71b3 : ¬ (t415 = t417 && (t416 == t418)) := by simpa using c71))
      clear c71
      exact absurd ((Option.some.inj H).trans hr_.out) (by decide)
    ·
     rw [if_neg c67] at H
     have c67b0 : (t411 == a2 && (t412 == a2)) = false := by simpa using c67
     (try (have c67b1 : decide (t411 = a2 && (t412 == a2)) = false := by simpa using c67))
     (try (have c67b2 : (t411 == a2 && (t412 == a2)) = false := by simpa using c67))
     (try (have c67b3 : ¬ (t411 = a2 && (t412 == a2)) := by simpa using c67))
     clear c67
     exact absurd ((Option.some.inj H).trans hr_.out) (by decide)

end Go.Proofs.Ytpacmhhaabhdjaa.SP
