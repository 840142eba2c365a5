-- Written by a program of this session: plain functions and their walks. Lean checks it.
import Derived.Test.YtpacmhhaabhdjaaSP0
import Derived.Test.YtpacmhhaabhdjaaSP3
import Derived.Test.YtpacmhhaabhdjaaSP8
import Derived.Test.YtpacmhhaabhdjaaSP12
import Derived.Test.YtpacmhhaabhdjaaSP18
import Derived.Test.YtpacmhhaabhdjaaSP20
namespace Go.Proofs.Ytpacmhhaabhdjaa.SP
open Go.RowKit Go.Proofs.YtpacmhhaabhdjaaW.PrintWords Go.Proofs.YtpacmhhaabhdjaaW.PrintLast Go.Proofs.YtpacmhhaabhdjaaW.PrintMore
attribute [local go_sem] max2_int min2_int max_two min_two max_three min_three max_four min_four   -- for this text's walks alone
set_option linter.unusedVariables false
set_option linter.unusedSimpArgs false

/-! ### avermentlaw10_SpanSound: function 11 -/
def avermentlaw10_SpanSound.j0 : Nat → Int → Bool → Int → Int → Option (Bool)
 | 0, _, _, _, _ => none
 | k + 1, x7, x61, x637000, x637001 => if x61 = true then (some false) else ((span_One.f k 3 x637000 x637001).bind fun bt646 => ((span_One.f k 2 x637000 x637001).bind fun bt650 => ((span_Branch.f x637000 x637001 (x7 != 0)).bind fun bt654 => (if bt646.2.2 = true then ((span_Has.f bt646.1 bt646.2.1 (wrap64 (-x7))).bind fun t658 => (if t658 = true then (if bt650.2.2 = true then ((span_Has.f bt650.1 bt650.2.1 x7).bind fun t659 => (if t659 = true then (if bt654.2.2 = true then ((span_Has.f bt654.1 bt654.2.1 x7).bind fun t660 => (some t660)) else (some false)) else (some false))) else (some false)) else (some false))) else (some false)))))
def avermentlaw10_SpanSound.f (k : Nat) (a0 : Int) (a1_0 : Int) (a1_1 : Int) (a2_0 : Int) (a2_1 : Int) (a2_2 : Int) (a2_3 : Int) : Option (Bool) := (avermentlaw10_about.f a2_0 a2_1 a1_0).bind fun bt632 => ((avermentlaw10_about.f a2_2 a2_3 a1_1).bind fun bt634 => ((avermentref07_Arith.f a0 a1_0 a1_1).bind fun bt638 => ((span_Two.f k a0 bt632.1 bt632.2 bt634.1 bt634.2).bind fun bt640 => ((avermentlaw10_told.f k).bind fun t644 => (if t644 = true then (if bt638.2 = true then (if bt640.2.2 = true then ((span_Has.f bt640.1 bt640.2.1 bt638.1).bind fun t645 => (avermentlaw10_SpanSound.j0 k a1_0 (!t645) bt632.1 bt632.2)) else (avermentlaw10_SpanSound.j0 k a1_0 true bt632.1 bt632.2)) else (avermentlaw10_SpanSound.j0 k a1_0 false bt632.1 bt632.2)) else (avermentlaw10_SpanSound.j0 k a1_0 true bt632.1 bt632.2))))))
theorem avermentlaw10_SpanSound.mono_l : ∀ k, (∀ y0 y1 y2 y3, LeO (avermentlaw10_SpanSound.j0 k y0 y1 y2 y3) (avermentlaw10_SpanSound.j0 (k + 1) y0 y1 y2 y3))
 | 0 => fun _ _ _ _ r h => by simp [avermentlaw10_SpanSound.j0] at h
 | k + 1 => by
  have ih0 := avermentlaw10_SpanSound.mono_l k
  ·
   intro y0 y1 y2 y3
   unfold avermentlaw10_SpanSound.j0
   repeat' first
   | (with_reducible exact ih0 _ _ _ _)
   | (with_reducible exact avermentlaw10_told.mono _)
   | (with_reducible exact span_One.mono _ _ _ _)
   | (with_reducible exact span_Two.mono _ _ _ _ _ _)
   | (with_reducible exact LeO.refl _)
   | (with_reducible exact LeO.none _)
   | (with_reducible refine LeO.ite ?_ ?_)
   | (with_reducible refine LeO.bind ?_ (fun _ => ?_))
   | exact ih0 _ _ _ _
   | exact avermentlaw10_told.mono _
   | exact span_One.mono _ _ _ _
   | exact span_Two.mono _ _ _ _ _ _
   | exact LeO.none _
   | refine LeO.ite ?_ ?_
   | refine LeO.bind ?_ (fun _ => ?_)
theorem avermentlaw10_SpanSound.mono : ∀ a0 a1 a2 a3 a4 a5 a6 k, LeO (avermentlaw10_SpanSound.f k a0 a1 a2 a3 a4 a5 a6) (avermentlaw10_SpanSound.f (k + 1) a0 a1 a2 a3 a4 a5 a6) := by
 intro a0 a1 a2 a3 a4 a5 a6 k
 have ih0 := avermentlaw10_SpanSound.mono_l k
 unfold avermentlaw10_SpanSound.f
 repeat' first
   | (with_reducible exact ih0 _ _ _ _)
   | (with_reducible exact avermentlaw10_told.mono _)
   | (with_reducible exact span_One.mono _ _ _ _)
   | (with_reducible exact span_Two.mono _ _ _ _ _ _)
   | (with_reducible exact LeO.refl _)
   | (with_reducible exact LeO.none _)
   | (with_reducible refine LeO.ite ?_ ?_)
   | (with_reducible refine LeO.bind ?_ (fun _ => ?_))
   | exact ih0 _ _ _ _
   | exact avermentlaw10_told.mono _
   | exact span_One.mono _ _ _ _
   | exact span_Two.mono _ _ _ _ _ _
   | exact LeO.none _
   | refine LeO.ite ?_ ?_
   | refine LeO.bind ?_ (fun _ => ?_)
def avermentlaw10_SpanSound.T2 : Bool × List (List Nat × List Nat) := (true, [([], []), ([0], [0]), ([], []), ([1, 2], [1, 2]), ([], []), ([4], [4]), ([], []), ([5, 6, 3], [5, 6]), ([], []), ([], []), ([8, 3, 7, 0, 1, 2, 3, 8, 9], [3, 8]), ([9, 7, 10, 0, 1, 2, 3, 4, 5, 6, 7, 8, 9, 10], [7, 9])])
def avermentlaw10_SpanSound.B2 : List Nat := [0, 1, 0, 7, 0, 16, 0, 127, 0, 0, 1023, 2047]
theorem avermentlaw10_SpanSound.tab2 : rtab .any (opsOf Try.f11 2) = avermentlaw10_SpanSound.T2 := by kernel_rfl
theorem avermentlaw10_SpanSound.bits2 : waitsOk avermentlaw10_SpanSound.T2.2 avermentlaw10_SpanSound.B2 = true := by kernel_rfl
set_option maxHeartbeats 8000000 in
set_option maxRecDepth 100000 in
theorem avermentlaw10_SpanSound.calls (k : Nat) (a0 : Int) (a1_0 : Int) (a1_1 : Int) (a2_0 : Int) (a2_1 : Int) (a2_2 : Int) (a2_3 : Int) (r : Bool) (w : World) (hr_ : Aside0 (r = true)) (h : avermentlaw10_SpanSound.f k a0 a1_0 a1_1 a2_0 a2_1 a2_2 a2_3 = some r) :
  Calls Try.prog 11 #[.int .i64 a0, .agg #[.int .i64 a1_0, .int .i64 a1_1], .agg #[.int .i64 a2_0, .int .i64 a2_1, .int .i64 a2_2, .int .i64 a2_3]] w fun e w' => e = .returned (.bool r) ∧ Below w.heap.size w w' := by
 have hu49 := Try.underlying49
 have hu87 := Try.underlying87
 have hu56 := Try.underlying56
 have hu59 := Try.underlying59
 have HB := Aside0.mk (Below.refl w.heap.size w)
 have H : ((avermentlaw10_about.f a2_0 a2_1 a1_0).bind fun bt632 => ((avermentlaw10_about.f a2_2 a2_3 a1_1).bind fun bt634 => ((avermentref07_Arith.f a0 a1_0 a1_1).bind fun bt638 => ((span_Two.f k a0 bt632.1 bt632.2 bt634.1 bt634.2).bind fun bt640 => ((avermentlaw10_told.f k).bind fun t644 => (if t644 = true then (if bt638.2 = true then (if bt640.2.2 = true then ((span_Has.f bt640.1 bt640.2.1 bt638.1).bind fun t645 => (avermentlaw10_SpanSound.j0 k a1_0 (!t645) bt632.1 bt632.2)) else (avermentlaw10_SpanSound.j0 k a1_0 true bt632.1 bt632.2)) else (avermentlaw10_SpanSound.j0 k a1_0 false bt632.1 bt632.2)) else (avermentlaw10_SpanSound.j0 k a1_0 true bt632.1 bt632.2))))))) = some r := h
 clear h
 replace H := Option.bind_eq_some_iff.mp H
 obtain ⟨⟨t632, t633⟩, A40, H⟩ := H
 (try dsimp only at H)
 have A4 := Aside0.mk A40
 clear A40
 replace H := Option.bind_eq_some_iff.mp H
 obtain ⟨⟨t634, t635⟩, A50, H⟩ := H
 (try dsimp only at H)
 have A5 := Aside0.mk A50
 clear A50
 replace H := Option.bind_eq_some_iff.mp H
 obtain ⟨⟨t638, t639⟩, A60, H⟩ := H
 (try dsimp only at H)
 have A6 := Aside0.mk A60
 clear A60
 replace H := Option.bind_eq_some_iff.mp H
 obtain ⟨⟨t640, t641, t642⟩, A70, H⟩ := H
 (try dsimp only at H)
 have A7 := Aside0.mk A70
 clear A70
 have HC8 := Aside0.mk H
 clear H
 go_enter Try.func11, Try.ntmps11
 try go_wp2_with (first | ((with_reducible refine gate_dst (N := 4) rfl ?_); refine box_event ?hg (N := 4) ?hd (cs := #[.int .i64 a1_0, .int .i64 a1_1]) (t := 49) ?hr ?_; (case hd => rfl); (case hg => rfl); (case hr => first | (go_simp; done) | (go_simp; rfl)); intro gb630 hg w9 hbox hb; have BK630 := Aside0.mk (hbox); have GW630 := geb hg HB rfl; have GE630 := geb hg HB rfl; replace HB := hst HB hb rfl; clear hb hbox hg) | ((with_reducible refine gate_dst (N := 5) rfl ?_); refine box_event ?hg (N := 5) ?hd (cs := #[.int .i64 a2_0, .int .i64 a2_1, .int .i64 a2_2, .int .i64 a2_3]) (t := 87) ?hr ?_; (case hd => rfl); (case hg => rfl); (case hr => first | (go_simp; done) | (go_simp; rfl)); intro gb631 hg w10 hbox hb; have BK631 := Aside0.mk (hbox); have GW631 := geb hg HB rfl; have GE631 := geb hg HB rfl; have NB630_631 := nbl hg BK630 rfl; have NB631_630 := nbr hg BK630 rfl; replace BK630 := bb BK630 hb rfl; replace HB := hst HB hb rfl; clear hb hbox hg))
 replace BK630 := Aside0.mk (blk_drew BK630.out); replace BK631 := Aside0.mk (blk_drew BK631.out); replace HB := Aside0.mk (below_drew1 HB.out)
 refine start_ (n := 6) (S := fun w' => w'.cell? ⟨gb630, 0, none⟩ = some (.int .i64 a1_0) ∧ w'.cell? ⟨gb630, 1, none⟩ = some (.int .i64 a1_1)) (ds := []) #[false, false, false, false, false, false] (by kernel_rfl) rfl rfl ⟨bc BK630 0 rfl, bc BK630 1 rfl⟩ (fun hHeld => ?_)
 generalize w10.drew = w11 at BK630 BK631 HB hHeld ⊢
 refine pure_ (i := 0) (N := some 21) (v := ?_) (a' := ?_) #[true, false, false, false, false, false] rfl rfl (by kernel_rfl) (fun _ _ _ h => h) (Or.inl ⟨by rfl, ?_⟩) ?_ ?_
 rotate_left; · (intro w'; go_simp; with_reducible rfl)
 rotate_left; · (simp only [Act.put, List.setIfInBounds_toArray, List.set_cons_zero, List.set_cons_succ, i64_w, i32_w]; rfl)
 refine pure_ (i := 2) (N := some 23) (v := ?_) (a' := ?_) #[true, false, true, false, false, false] rfl rfl (by kernel_rfl) (fun _ _ _ h => h) (Or.inl ⟨by rfl, ?_⟩) ?_ ?_
 rotate_left; · (intro w'; go_simp; with_reducible rfl)
 rotate_left; · (simp only [Act.put, List.setIfInBounds_toArray, List.set_cons_zero, List.set_cons_succ, i64_w, i32_w]; rfl)
 refine take_ (i := 1) (N := some 22) (v := ?_) (a' := ?_) #[true, true, true, false, false, false] rfl rfl (by kernel_rfl) (fun _ _ _ h => h) (Or.inl ⟨by rfl, ?_⟩) hHeld ?_ ?_
 rotate_left
 ·
  rintro w' ⟨s0, s1⟩
  go_simp
  with_reducible rfl
 rotate_left
 ·
  simp only [Act.put, List.setIfInBounds_toArray, List.set_cons_zero, List.set_cons_succ, i64_w, i32_w]
  rfl
 refine pure_ (i := 4) (N := some 7) (v := ?_) (a' := ?_) #[true, true, true, false, true, false] rfl rfl (by kernel_rfl) (fun _ _ _ h => h) (Or.inl ⟨by rfl, ?_⟩) ?_ ?_
 rotate_left; · (intro w'; go_simp; with_reducible rfl)
 rotate_left; · (simp only [Act.put, List.setIfInBounds_toArray, List.set_cons_zero, List.set_cons_succ, i64_w, i32_w]; rfl)
 refine take_ (i := 3) (N := some 24) (v := ?_) (a' := ?_) #[true, true, true, true, true, false] rfl rfl (by kernel_rfl) (fun _ _ _ h => h) (Or.inl ⟨by rfl, ?_⟩) hHeld ?_ ?_
 rotate_left
 ·
  rintro w' ⟨s0, s1⟩
  go_simp
  with_reducible rfl
 rotate_left
 ·
  simp only [Act.put, List.setIfInBounds_toArray, List.set_cons_zero, List.set_cons_succ, i64_w, i32_w]
  rfl
 refine pure_ (i := 5) (N := some 8) (v := ?_) (a' := ?_) #[true, true, true, true, true, true] rfl rfl (by kernel_rfl) (fun _ _ _ h => h) (Or.inl ⟨by rfl, ?_⟩) ?_ ?_
 rotate_left; · (intro w'; go_simp; with_reducible rfl)
 rotate_left; · (simp only [Act.put, List.setIfInBounds_toArray, List.set_cons_zero, List.set_cons_succ, i64_w, i32_w]; rfl)
 refine done_ (by kernel_rfl) ?_
 try go_wp2
 replace BK630 := Aside0.mk (blk_drew BK630.out); replace BK631 := Aside0.mk (blk_drew BK631.out); replace HB := Aside0.mk (below_drew1 HB.out)
 refine start_ (n := 12) (S := fun w' => w'.cell? ⟨gb631, 0, none⟩ = some (.int .i64 a2_0) ∧ w'.cell? ⟨gb631, 1, none⟩ = some (.int .i64 a2_1) ∧ w'.cell? ⟨gb631, 2, none⟩ = some (.int .i64 a2_2) ∧ w'.cell? ⟨gb631, 3, none⟩ = some (.int .i64 a2_3)) (ds := []) #[false, false, false, false, false, false, false, false, false, false, false, false] (by kernel_rfl) rfl rfl ⟨bc BK631 0 rfl, bc BK631 1 rfl, bc BK631 2 rfl, bc BK631 3 rfl⟩ (fun hHeld => ?_); refine with_tabW avermentlaw10_SpanSound.tab2 avermentlaw10_SpanSound.bits2 (fun HT_ HW_ => ?_)
 generalize w11.drew = w12 at BK630 BK631 HB hHeld ⊢
 refine pure_ (i := 0) (N := some 25) (v := ?_) (a' := ?_) #[true, false, false, false, false, false, false, false, false, false, false, false] rfl rfl (any_of HT_.out (by kernel_rfl)) (fun _ _ _ h => h) (Or.inl ⟨by rfl, ?_⟩) ?_ ?_
 rotate_left; · (intro w'; go_simp; with_reducible rfl)
 rotate_left; · (simp only [Act.put, List.setIfInBounds_toArray, List.set_cons_zero, List.set_cons_succ, i64_w, i32_w]; rfl)
 refine pure_ (i := 2) (N := some 27) (v := ?_) (a' := ?_) #[true, false, true, false, false, false, false, false, false, false, false, false] rfl rfl (any_of HT_.out (by kernel_rfl)) (fun _ _ _ h => h) (Or.inl ⟨by rfl, ?_⟩) ?_ ?_
 rotate_left; · (intro w'; go_simp; with_reducible rfl)
 rotate_left; · (simp only [Act.put, List.setIfInBounds_toArray, List.set_cons_zero, List.set_cons_succ, i64_w, i32_w]; rfl)
 refine pure_ (i := 4) (N := some 29) (v := ?_) (a' := ?_) #[true, false, true, false, true, false, false, false, false, false, false, false] rfl rfl (any_of HT_.out (by kernel_rfl)) (fun _ _ _ h => h) (Or.inl ⟨by rfl, ?_⟩) ?_ ?_
 rotate_left; · (intro w'; go_simp; with_reducible rfl)
 rotate_left; · (simp only [Act.put, List.setIfInBounds_toArray, List.set_cons_zero, List.set_cons_succ, i64_w, i32_w]; rfl)
 refine pure_ (i := 6) (N := some 31) (v := ?_) (a' := ?_) #[true, false, true, false, true, false, true, false, false, false, false, false] rfl rfl (any_of HT_.out (by kernel_rfl)) (fun _ _ _ h => h) (Or.inl ⟨by rfl, ?_⟩) ?_ ?_
 rotate_left; · (intro w'; go_simp; with_reducible rfl)
 rotate_left; · (simp only [Act.put, List.setIfInBounds_toArray, List.set_cons_zero, List.set_cons_succ, i64_w, i32_w]; rfl)
 refine take_ (i := 1) (N := some 26) (v := ?_) (a' := ?_) #[true, true, true, false, true, false, true, false, false, false, false, false] rfl rfl (take_ofW HT_.out HW_.out (by kernel_rfl)) (fun _ _ _ h => h) (Or.inl ⟨by rfl, ?_⟩) hHeld ?_ ?_
 rotate_left
 ·
  rintro w' ⟨s0, s1, s2, s3⟩
  go_simp
  with_reducible rfl
 rotate_left
 ·
  simp only [Act.put, List.setIfInBounds_toArray, List.set_cons_zero, List.set_cons_succ, i64_w, i32_w]
  rfl
 refine take_ (i := 5) (N := some 30) (v := ?_) (a' := ?_) #[true, true, true, false, true, true, true, false, false, false, false, false] rfl rfl (take_ofW HT_.out HW_.out (by kernel_rfl)) (fun _ _ _ h => h) (Or.inl ⟨by rfl, ?_⟩) hHeld ?_ ?_
 rotate_left
 ·
  rintro w' ⟨s0, s1, s2, s3⟩
  go_simp
  with_reducible rfl
 rotate_left
 ·
  simp only [Act.put, List.setIfInBounds_toArray, List.set_cons_zero, List.set_cons_succ, i64_w, i32_w]
  rfl
 refine join_ (σ := Nat × Nat) 2 #[true, true, true, true, true, true, true, true, true, true, false, false] (fun s_ => [(28, .agg #[.int .i64 t632, .int .i64 t633]), (32, .agg #[.int .i64 t634, .int .i64 t635]), (9, .pointer (some ⟨s_.1, 0, none⟩)), (10, .pointer (some ⟨s_.2, 0, none⟩))]) (fun s_ w' => (w'.cell? ⟨gb631, 0, none⟩ = some (.int .i64 a2_0) ∧ w'.cell? ⟨gb631, 1, none⟩ = some (.int .i64 a2_1) ∧ w'.cell? ⟨gb631, 2, none⟩ = some (.int .i64 a2_2) ∧ w'.cell? ⟨gb631, 3, none⟩ = some (.int .i64 a2_3)) ∧ (w'.heap[gb630]? = some (.cells #[.int .i64 a1_0, .int .i64 a1_1] 49 (0, 0))) ∧ (w'.heap[gb631]? = some (.cells #[.int .i64 a2_0, .int .i64 a2_1, .int .i64 a2_2, .int .i64 a2_3] 87 (0, 0))) ∧ (w'.heap[s_.1]? = some (.cells #[.int .i64 0, .int .i64 0] 59 (0, 0))) ∧ (w'.heap[s_.2]? = some (.cells #[.int .i64 0, .int .i64 0] 59 (0, 0))) ∧ (w.heap.size ≤ s_.1) ∧ (w.heap.size ≤ s_.1) ∧ (gb630 ≠ s_.1) ∧ (s_.1 ≠ gb630) ∧ (gb631 ≠ s_.1) ∧ (s_.1 ≠ gb631) ∧ (s_.2 ≠ s_.1) ∧ (s_.1 ≠ s_.2) ∧ (w.heap.size ≤ s_.2) ∧ (w.heap.size ≤ s_.2) ∧ (gb630 ≠ s_.2) ∧ (s_.2 ≠ gb630) ∧ (gb631 ≠ s_.2) ∧ (s_.2 ≠ gb631) ∧ (Below w.heap.size w w')) ?_ ?_
 rotate_left
 ·
  intro hJ3_7_8_9
  refine join_ (σ := Nat) 3 #[true, true, true, true, true, true, true, true, true, false, false, false] (fun s_ => [(28, .agg #[.int .i64 t632, .int .i64 t633]), (32, .agg #[.int .i64 t634, .int .i64 t635]), (9, .pointer (some ⟨s_, 0, none⟩))]) (fun s_ w' => (w'.cell? ⟨gb631, 0, none⟩ = some (.int .i64 a2_0) ∧ w'.cell? ⟨gb631, 1, none⟩ = some (.int .i64 a2_1) ∧ w'.cell? ⟨gb631, 2, none⟩ = some (.int .i64 a2_2) ∧ w'.cell? ⟨gb631, 3, none⟩ = some (.int .i64 a2_3)) ∧ (w'.heap[gb630]? = some (.cells #[.int .i64 a1_0, .int .i64 a1_1] 49 (0, 0))) ∧ (w'.heap[gb631]? = some (.cells #[.int .i64 a2_0, .int .i64 a2_1, .int .i64 a2_2, .int .i64 a2_3] 87 (0, 0))) ∧ (w'.heap[s_]? = some (.cells #[.int .i64 0, .int .i64 0] 59 (0, 0))) ∧ (w.heap.size ≤ s_) ∧ (w.heap.size ≤ s_) ∧ (gb630 ≠ s_) ∧ (s_ ≠ gb630) ∧ (gb631 ≠ s_) ∧ (s_ ≠ gb631) ∧ (Below w.heap.size w w')) ?_ ?_
  rotate_left
  ·
   intro hJ3_7_8
   refine join_ (σ := Nat) 3 #[true, true, true, true, true, true, true, true, false, true, false, false] (fun s_ => [(28, .agg #[.int .i64 t632, .int .i64 t633]), (32, .agg #[.int .i64 t634, .int .i64 t635]), (10, .pointer (some ⟨s_, 0, none⟩))]) (fun s_ w' => (w'.cell? ⟨gb631, 0, none⟩ = some (.int .i64 a2_0) ∧ w'.cell? ⟨gb631, 1, none⟩ = some (.int .i64 a2_1) ∧ w'.cell? ⟨gb631, 2, none⟩ = some (.int .i64 a2_2) ∧ w'.cell? ⟨gb631, 3, none⟩ = some (.int .i64 a2_3)) ∧ (w'.heap[gb630]? = some (.cells #[.int .i64 a1_0, .int .i64 a1_1] 49 (0, 0))) ∧ (w'.heap[gb631]? = some (.cells #[.int .i64 a2_0, .int .i64 a2_1, .int .i64 a2_2, .int .i64 a2_3] 87 (0, 0))) ∧ (w'.heap[s_]? = some (.cells #[.int .i64 0, .int .i64 0] 59 (0, 0))) ∧ (w.heap.size ≤ s_) ∧ (w.heap.size ≤ s_) ∧ (gb630 ≠ s_) ∧ (s_ ≠ gb630) ∧ (gb631 ≠ s_) ∧ (s_ ≠ gb631) ∧ (Below w.heap.size w w')) ?_ ?_
   rotate_left
   ·
    intro hJ3_7_9
    refine join_ (σ := Nat × Nat) 3 #[true, true, true, true, true, true, true, false, true, true, false, false] (fun s_ => [(28, .agg #[.int .i64 t632, .int .i64 t633]), (9, .pointer (some ⟨s_.1, 0, none⟩)), (10, .pointer (some ⟨s_.2, 0, none⟩))]) (fun s_ w' => (w'.cell? ⟨gb631, 0, none⟩ = some (.int .i64 a2_0) ∧ w'.cell? ⟨gb631, 1, none⟩ = some (.int .i64 a2_1) ∧ w'.cell? ⟨gb631, 2, none⟩ = some (.int .i64 a2_2) ∧ w'.cell? ⟨gb631, 3, none⟩ = some (.int .i64 a2_3)) ∧ (w'.heap[gb630]? = some (.cells #[.int .i64 a1_0, .int .i64 a1_1] 49 (0, 0))) ∧ (w'.heap[gb631]? = some (.cells #[.int .i64 a2_0, .int .i64 a2_1, .int .i64 a2_2, .int .i64 a2_3] 87 (0, 0))) ∧ (w'.heap[s_.1]? = some (.cells #[.int .i64 0, .int .i64 0] 59 (0, 0))) ∧ (w'.heap[s_.2]? = some (.cells #[.int .i64 0, .int .i64 0] 59 (0, 0))) ∧ (w.heap.size ≤ s_.1) ∧ (w.heap.size ≤ s_.1) ∧ (gb630 ≠ s_.1) ∧ (s_.1 ≠ gb630) ∧ (gb631 ≠ s_.1) ∧ (s_.1 ≠ gb631) ∧ (s_.2 ≠ s_.1) ∧ (s_.1 ≠ s_.2) ∧ (w.heap.size ≤ s_.2) ∧ (w.heap.size ≤ s_.2) ∧ (gb630 ≠ s_.2) ∧ (s_.2 ≠ gb630) ∧ (gb631 ≠ s_.2) ∧ (s_.2 ≠ gb631) ∧ (Below w.heap.size w w')) ?_ ?_
    rotate_left
    ·
     intro hJ3_8_9
     refine join_ (σ := Unit) 4 #[true, true, true, true, true, true, true, true, false, false, false, false] (fun s_ => [(28, .agg #[.int .i64 t632, .int .i64 t633]), (32, .agg #[.int .i64 t634, .int .i64 t635])]) (fun s_ w' => (w'.cell? ⟨gb631, 0, none⟩ = some (.int .i64 a2_0) ∧ w'.cell? ⟨gb631, 1, none⟩ = some (.int .i64 a2_1) ∧ w'.cell? ⟨gb631, 2, none⟩ = some (.int .i64 a2_2) ∧ w'.cell? ⟨gb631, 3, none⟩ = some (.int .i64 a2_3)) ∧ (w'.heap[gb630]? = some (.cells #[.int .i64 a1_0, .int .i64 a1_1] 49 (0, 0))) ∧ (w'.heap[gb631]? = some (.cells #[.int .i64 a2_0, .int .i64 a2_1, .int .i64 a2_2, .int .i64 a2_3] 87 (0, 0))) ∧ (Below w.heap.size w w')) ?_ ?_
     rotate_left
     ·
      intro hJ3_7
      refine join_ (σ := Nat) 4 #[true, true, true, true, true, true, true, false, true, false, false, false] (fun s_ => [(28, .agg #[.int .i64 t632, .int .i64 t633]), (9, .pointer (some ⟨s_, 0, none⟩))]) (fun s_ w' => (w'.cell? ⟨gb631, 0, none⟩ = some (.int .i64 a2_0) ∧ w'.cell? ⟨gb631, 1, none⟩ = some (.int .i64 a2_1) ∧ w'.cell? ⟨gb631, 2, none⟩ = some (.int .i64 a2_2) ∧ w'.cell? ⟨gb631, 3, none⟩ = some (.int .i64 a2_3)) ∧ (w'.heap[gb630]? = some (.cells #[.int .i64 a1_0, .int .i64 a1_1] 49 (0, 0))) ∧ (w'.heap[gb631]? = some (.cells #[.int .i64 a2_0, .int .i64 a2_1, .int .i64 a2_2, .int .i64 a2_3] 87 (0, 0))) ∧ (w'.heap[s_]? = some (.cells #[.int .i64 0, .int .i64 0] 59 (0, 0))) ∧ (w.heap.size ≤ s_) ∧ (w.heap.size ≤ s_) ∧ (gb630 ≠ s_) ∧ (s_ ≠ gb630) ∧ (gb631 ≠ s_) ∧ (s_ ≠ gb631) ∧ (Below w.heap.size w w')) ?_ ?_
      rotate_left
      ·
       intro hJ3_8
       refine join_ (σ := Nat) 4 #[true, true, true, true, true, true, true, false, false, true, false, false] (fun s_ => [(28, .agg #[.int .i64 t632, .int .i64 t633]), (10, .pointer (some ⟨s_, 0, none⟩))]) (fun s_ w' => (w'.cell? ⟨gb631, 0, none⟩ = some (.int .i64 a2_0) ∧ w'.cell? ⟨gb631, 1, none⟩ = some (.int .i64 a2_1) ∧ w'.cell? ⟨gb631, 2, none⟩ = some (.int .i64 a2_2) ∧ w'.cell? ⟨gb631, 3, none⟩ = some (.int .i64 a2_3)) ∧ (w'.heap[gb630]? = some (.cells #[.int .i64 a1_0, .int .i64 a1_1] 49 (0, 0))) ∧ (w'.heap[gb631]? = some (.cells #[.int .i64 a2_0, .int .i64 a2_1, .int .i64 a2_2, .int .i64 a2_3] 87 (0, 0))) ∧ (w'.heap[s_]? = some (.cells #[.int .i64 0, .int .i64 0] 59 (0, 0))) ∧ (w.heap.size ≤ s_) ∧ (w.heap.size ≤ s_) ∧ (gb630 ≠ s_) ∧ (s_ ≠ gb630) ∧ (gb631 ≠ s_) ∧ (s_ ≠ gb631) ∧ (Below w.heap.size w w')) ?_ ?_
       rotate_left
       ·
        intro hJ3_9
        refine join_ (σ := Nat × Nat) 4 #[true, true, true, false, true, true, true, false, true, true, false, false] (fun s_ => [(9, .pointer (some ⟨s_.1, 0, none⟩)), (10, .pointer (some ⟨s_.2, 0, none⟩))]) (fun s_ w' => (w'.cell? ⟨gb631, 0, none⟩ = some (.int .i64 a2_0) ∧ w'.cell? ⟨gb631, 1, none⟩ = some (.int .i64 a2_1) ∧ w'.cell? ⟨gb631, 2, none⟩ = some (.int .i64 a2_2) ∧ w'.cell? ⟨gb631, 3, none⟩ = some (.int .i64 a2_3)) ∧ (w'.heap[gb630]? = some (.cells #[.int .i64 a1_0, .int .i64 a1_1] 49 (0, 0))) ∧ (w'.heap[gb631]? = some (.cells #[.int .i64 a2_0, .int .i64 a2_1, .int .i64 a2_2, .int .i64 a2_3] 87 (0, 0))) ∧ (w'.heap[s_.1]? = some (.cells #[.int .i64 0, .int .i64 0] 59 (0, 0))) ∧ (w'.heap[s_.2]? = some (.cells #[.int .i64 0, .int .i64 0] 59 (0, 0))) ∧ (w.heap.size ≤ s_.1) ∧ (w.heap.size ≤ s_.1) ∧ (gb630 ≠ s_.1) ∧ (s_.1 ≠ gb630) ∧ (gb631 ≠ s_.1) ∧ (s_.1 ≠ gb631) ∧ (s_.2 ≠ s_.1) ∧ (s_.1 ≠ s_.2) ∧ (w.heap.size ≤ s_.2) ∧ (w.heap.size ≤ s_.2) ∧ (gb630 ≠ s_.2) ∧ (s_.2 ≠ gb630) ∧ (gb631 ≠ s_.2) ∧ (s_.2 ≠ gb631) ∧ (Below w.heap.size w w')) ?_ ?_
        rotate_left
        ·
         intro hJ8_9
         refine join_ (σ := Unit) 5 #[true, true, true, true, true, true, true, false, false, false, false, false] (fun s_ => [(28, .agg #[.int .i64 t632, .int .i64 t633])]) (fun s_ w' => (w'.cell? ⟨gb631, 0, none⟩ = some (.int .i64 a2_0) ∧ w'.cell? ⟨gb631, 1, none⟩ = some (.int .i64 a2_1) ∧ w'.cell? ⟨gb631, 2, none⟩ = some (.int .i64 a2_2) ∧ w'.cell? ⟨gb631, 3, none⟩ = some (.int .i64 a2_3)) ∧ (w'.heap[gb630]? = some (.cells #[.int .i64 a1_0, .int .i64 a1_1] 49 (0, 0))) ∧ (w'.heap[gb631]? = some (.cells #[.int .i64 a2_0, .int .i64 a2_1, .int .i64 a2_2, .int .i64 a2_3] 87 (0, 0))) ∧ (Below w.heap.size w w')) ?_ ?_
         rotate_left
         ·
          intro hJ3
          refine join_ (σ := Nat) 5 #[true, true, true, false, true, true, true, false, true, false, false, false] (fun s_ => [(9, .pointer (some ⟨s_, 0, none⟩))]) (fun s_ w' => (w'.cell? ⟨gb631, 0, none⟩ = some (.int .i64 a2_0) ∧ w'.cell? ⟨gb631, 1, none⟩ = some (.int .i64 a2_1) ∧ w'.cell? ⟨gb631, 2, none⟩ = some (.int .i64 a2_2) ∧ w'.cell? ⟨gb631, 3, none⟩ = some (.int .i64 a2_3)) ∧ (w'.heap[gb630]? = some (.cells #[.int .i64 a1_0, .int .i64 a1_1] 49 (0, 0))) ∧ (w'.heap[gb631]? = some (.cells #[.int .i64 a2_0, .int .i64 a2_1, .int .i64 a2_2, .int .i64 a2_3] 87 (0, 0))) ∧ (w'.heap[s_]? = some (.cells #[.int .i64 0, .int .i64 0] 59 (0, 0))) ∧ (w.heap.size ≤ s_) ∧ (w.heap.size ≤ s_) ∧ (gb630 ≠ s_) ∧ (s_ ≠ gb630) ∧ (gb631 ≠ s_) ∧ (s_ ≠ gb631) ∧ (Below w.heap.size w w')) ?_ ?_
          rotate_left
          ·
           intro hJ8
           refine join_ (σ := Nat) 5 #[true, true, true, false, true, true, true, false, false, true, false, false] (fun s_ => [(10, .pointer (some ⟨s_, 0, none⟩))]) (fun s_ w' => (w'.cell? ⟨gb631, 0, none⟩ = some (.int .i64 a2_0) ∧ w'.cell? ⟨gb631, 1, none⟩ = some (.int .i64 a2_1) ∧ w'.cell? ⟨gb631, 2, none⟩ = some (.int .i64 a2_2) ∧ w'.cell? ⟨gb631, 3, none⟩ = some (.int .i64 a2_3)) ∧ (w'.heap[gb630]? = some (.cells #[.int .i64 a1_0, .int .i64 a1_1] 49 (0, 0))) ∧ (w'.heap[gb631]? = some (.cells #[.int .i64 a2_0, .int .i64 a2_1, .int .i64 a2_2, .int .i64 a2_3] 87 (0, 0))) ∧ (w'.heap[s_]? = some (.cells #[.int .i64 0, .int .i64 0] 59 (0, 0))) ∧ (w.heap.size ≤ s_) ∧ (w.heap.size ≤ s_) ∧ (gb630 ≠ s_) ∧ (s_ ≠ gb630) ∧ (gb631 ≠ s_) ∧ (s_ ≠ gb631) ∧ (Below w.heap.size w w')) ?_ ?_
           rotate_left
           ·
            intro hJ9
            refine three_ (i := 3) (j := 8) (k := 9) (Ni := some 28) (Nj := some 9) (Nk := some 10) #[true, true, true, true, true, true, true, false, false, false, false, false] #[true, true, true, false, true, true, true, false, true, false, false, false] #[true, true, true, false, true, true, true, false, false, true, false, false] rfl rfl rfl rfl rfl rfl (three_of HT_.out (by kernel_rfl)) (by decide) (by decide) (by decide) (fun K hK => ?_) (fun K hK => ?_) (fun K hK => ?_)
            ·
             skip
             refine goes_ Try.func59 (by kernel_rfl) rfl #[.agg #[.int .i64 a2_0, .int .i64 a2_1], .int .i64 a1_0] (by rfl) rfl rfl (mapq rfl) ?_
             with_reducible refine (avermentlaw10_about.calls a2_0 a2_1 a1_0 t632 t633 _ A4.out).mono ?_
             rintro e w13 ⟨rfl, hb⟩
             refine ⟨_, rfl, ?_⟩
             replace BK630 := bb BK630 hb rfl; replace BK631 := bb BK631 hb rfl; replace HB := hst HB hb rfl
             (try clear hb)
             refine hK.out _ _ ⟨bc BK631 0 rfl, bc BK631 1 rfl, bc BK631 2 rfl, bc BK631 3 rfl⟩ (fun hHeld => ?_)
             clear hK K
             refine norm_ (a' := ?_) ?_ ?_
             rotate_left; · (show Act.put _ (some 28) _ = _; simp only [Act.put, List.setIfInBounds_toArray, List.set_cons_zero, List.set_cons_succ, i64_w, i32_w]; rfl)
             exact norm_ (by first | (simp only [putAll, Act.put, List.setIfInBounds_toArray, List.set_cons_zero, List.set_cons_succ]; done) | (simp only [putAll, Act.put, List.setIfInBounds_toArray, List.set_cons_zero, List.set_cons_succ]; rfl)) (hJ3 () _ ⟨hHeld, BK630.out, BK631.out, (by repeat (first | (with_reducible first | exact HB.out | apply below_alloc | apply pw_below_drewN | apply below_drew1 | refine below_set ?_ GE630.out | refine below_set ?_ GE631.out) | exact HB.out))⟩)
            ·
             skip
             refine box_step ?hg (N := 9) ?hd (cs := #[.int .i64 0, .int .i64 0]) (t := 59) ?hr ?_; (case hd => rfl); (case hg => rfl); (case hr => first | (go_simp; done) | (go_simp; rfl))
             intro gb636 hg w13 hbox hb
             have BK636 := Aside0.mk (hbox)
             have GW636 := geb hg HB rfl
             have GE636 := geb hg HB rfl
             have NB630_636 := nbl hg BK630 rfl
             have NB636_630 := nbr hg BK630 rfl
             have NB631_636 := nbl hg BK631 rfl
             have NB636_631 := nbr hg BK631 rfl
             replace BK630 := bb BK630 hb rfl; replace BK631 := bb BK631 hb rfl; replace HB := hst HB hb rfl
             clear hb hbox hg
             refine hK.out _ _ ⟨bc BK631 0 rfl, bc BK631 1 rfl, bc BK631 2 rfl, bc BK631 3 rfl⟩ (fun hHeld => ?_)
             clear hK K
             refine norm_ (a' := ?_) ?_ ?_
             rotate_left; · (show Act.put _ (some 9) _ = _; simp only [Act.put, List.setIfInBounds_toArray, List.set_cons_zero, List.set_cons_succ, i64_w, i32_w]; rfl)
             exact norm_ (by first | (simp only [putAll, Act.put, List.setIfInBounds_toArray, List.set_cons_zero, List.set_cons_succ]; done) | (simp only [putAll, Act.put, List.setIfInBounds_toArray, List.set_cons_zero, List.set_cons_succ]; rfl)) (hJ8 (gb636) _ ⟨hHeld, BK630.out, BK631.out, BK636.out, GW636.out, GE636.out, NB630_636.out, NB636_630.out, NB631_636.out, NB636_631.out, (by repeat (first | (with_reducible first | exact HB.out | apply below_alloc | apply pw_below_drewN | apply below_drew1 | refine below_set ?_ GE630.out | refine below_set ?_ GE631.out | refine below_set ?_ GE636.out) | exact HB.out))⟩)
            ·
             skip
             refine box_step ?hg (N := 10) ?hd (cs := #[.int .i64 0, .int .i64 0]) (t := 59) ?hr ?_; (case hd => rfl); (case hg => rfl); (case hr => first | (go_simp; done) | (go_simp; rfl))
             intro gb637 hg w13 hbox hb
             have BK637 := Aside0.mk (hbox)
             have GW637 := geb hg HB rfl
             have GE637 := geb hg HB rfl
             have NB630_637 := nbl hg BK630 rfl
             have NB637_630 := nbr hg BK630 rfl
             have NB631_637 := nbl hg BK631 rfl
             have NB637_631 := nbr hg BK631 rfl
             replace BK630 := bb BK630 hb rfl; replace BK631 := bb BK631 hb rfl; replace HB := hst HB hb rfl
             clear hb hbox hg
             refine hK.out _ _ ⟨bc BK631 0 rfl, bc BK631 1 rfl, bc BK631 2 rfl, bc BK631 3 rfl⟩ (fun hHeld => ?_)
             clear hK K
             refine norm_ (a' := ?_) ?_ ?_
             rotate_left; · (show Act.put _ (some 10) _ = _; simp only [Act.put, List.setIfInBounds_toArray, List.set_cons_zero, List.set_cons_succ, i64_w, i32_w]; rfl)
             exact norm_ (by first | (simp only [putAll, Act.put, List.setIfInBounds_toArray, List.set_cons_zero, List.set_cons_succ]; done) | (simp only [putAll, Act.put, List.setIfInBounds_toArray, List.set_cons_zero, List.set_cons_succ]; rfl)) (hJ9 (gb637) _ ⟨hHeld, BK630.out, BK631.out, BK637.out, GW637.out, GE637.out, NB630_637.out, NB637_630.out, NB631_637.out, NB637_631.out, (by repeat (first | (with_reducible first | exact HB.out | apply below_alloc | apply pw_below_drewN | apply below_drew1 | refine below_set ?_ GE630.out | refine below_set ?_ GE631.out | refine below_set ?_ GE637.out) | exact HB.out))⟩)
           ·
            skip
            rintro gb637 w14 ⟨hS_, h0_, h1_, h2_, h3_, h4_, h5_, h6_, h7_, h8_, h9_⟩
            have n0_ : Aside0 (w14.heap[gb630]? = some (.cells #[.int .i64 a1_0, .int .i64 a1_1] 49 (0, 0))) := ⟨h0_⟩
            have n1_ : Aside0 (w14.heap[gb631]? = some (.cells #[.int .i64 a2_0, .int .i64 a2_1, .int .i64 a2_2, .int .i64 a2_3] 87 (0, 0))) := ⟨h1_⟩
            have n2_ : Aside0 (w14.heap[gb637]? = some (.cells #[.int .i64 0, .int .i64 0] 59 (0, 0))) := ⟨h2_⟩
            have n3_ : Aside0 (w.heap.size ≤ gb637) := ⟨h3_⟩
            have n4_ : Aside0 (w.heap.size ≤ gb637) := ⟨h4_⟩
            have n5_ : Aside0 (gb630 ≠ gb637) := ⟨h5_⟩
            have n6_ : Aside0 (gb637 ≠ gb630) := ⟨h6_⟩
            have n7_ : Aside0 (gb631 ≠ gb637) := ⟨h7_⟩
            have n8_ : Aside0 (gb637 ≠ gb631) := ⟨h8_⟩
            have n9_ : Aside0 (Below w.heap.size w w14) := ⟨h9_⟩
            clear BK630
            clear BK631
            clear HB
            clear h0_ h1_ h2_ h3_ h4_ h5_ h6_ h7_ h8_ h9_
            have BK630 := n0_
            have BK631 := n1_
            have BK637 := n2_
            have GW637 := n3_
            have GE637 := n4_
            have NB630_637 := n5_
            have NB637_630 := n6_
            have NB631_637 := n7_
            have NB637_631 := n8_
            have HB := n9_
            clear n0_ n1_ n2_ n3_ n4_ n5_ n6_ n7_ n8_ n9_
            have hHeld : w14.cell? ⟨gb631, 0, none⟩ = some (.int .i64 a2_0) ∧ w14.cell? ⟨gb631, 1, none⟩ = some (.int .i64 a2_1) ∧ w14.cell? ⟨gb631, 2, none⟩ = some (.int .i64 a2_2) ∧ w14.cell? ⟨gb631, 3, none⟩ = some (.int .i64 a2_3) := hS_
            refine norm_ (a' := ?_) ?_ ?_
            rotate_left
            ·
             simp only [putAll, Act.put, List.setIfInBounds_toArray, List.set_cons_zero, List.set_cons_succ]
             rfl
            refine two_ (i := 3) (j := 8) (Ni := some 28) (Nj := some 9) #[true, true, true, true, true, true, true, false, false, true, false, false] #[true, true, true, false, true, true, true, false, true, true, false, false] rfl rfl rfl rfl (two_of HT_.out (by kernel_rfl)) (by decide) (by decide) (fun K hK => ?_) (fun K hK => ?_)
            ·
             skip
             refine goes_ Try.func59 (by kernel_rfl) rfl #[.agg #[.int .i64 a2_0, .int .i64 a2_1], .int .i64 a1_0] (by rfl) rfl rfl (mapq rfl) ?_
             with_reducible refine (avermentlaw10_about.calls a2_0 a2_1 a1_0 t632 t633 _ A4.out).mono ?_
             rintro e w15 ⟨rfl, hb⟩
             refine ⟨_, rfl, ?_⟩
             replace BK630 := bb BK630 hb rfl; replace BK631 := bb BK631 hb rfl; replace BK637 := bb BK637 hb rfl; replace HB := hst HB hb rfl
             (try clear hb)
             refine hK.out _ _ ⟨bc BK631 0 rfl, bc BK631 1 rfl, bc BK631 2 rfl, bc BK631 3 rfl⟩ (fun hHeld => ?_)
             clear hK K
             refine norm_ (a' := ?_) ?_ ?_
             rotate_left; · (show Act.put _ (some 28) _ = _; simp only [Act.put, List.setIfInBounds_toArray, List.set_cons_zero, List.set_cons_succ, i64_w, i32_w]; rfl)
             exact norm_ (by first | (simp only [putAll, Act.put, List.setIfInBounds_toArray, List.set_cons_zero, List.set_cons_succ]; done) | (simp only [putAll, Act.put, List.setIfInBounds_toArray, List.set_cons_zero, List.set_cons_succ]; rfl)) (hJ3_9 (gb637) _ ⟨hHeld, BK630.out, BK631.out, BK637.out, GW637.out, GE637.out, NB630_637.out, NB637_630.out, NB631_637.out, NB637_631.out, (by repeat (first | (with_reducible first | exact HB.out | apply below_alloc | apply pw_below_drewN | apply below_drew1 | refine below_set ?_ GE630.out | refine below_set ?_ GE631.out | refine below_set ?_ GE637.out) | exact HB.out))⟩)
            ·
             skip
             refine box_step ?hg (N := 9) ?hd (cs := #[.int .i64 0, .int .i64 0]) (t := 59) ?hr ?_; (case hd => rfl); (case hg => rfl); (case hr => first | (go_simp; done) | (go_simp; rfl))
             intro gb636 hg w15 hbox hb
             have BK636 := Aside0.mk (hbox)
             have GW636 := geb hg HB rfl
             have GE636 := geb hg HB rfl
             have NB630_636 := nbl hg BK630 rfl
             have NB636_630 := nbr hg BK630 rfl
             have NB631_636 := nbl hg BK631 rfl
             have NB636_631 := nbr hg BK631 rfl
             have NB637_636 := nbl hg BK637 rfl
             have NB636_637 := nbr hg BK637 rfl
             replace BK630 := bb BK630 hb rfl; replace BK631 := bb BK631 hb rfl; replace BK637 := bb BK637 hb rfl; replace HB := hst HB hb rfl
             clear hb hbox hg
             refine hK.out _ _ ⟨bc BK631 0 rfl, bc BK631 1 rfl, bc BK631 2 rfl, bc BK631 3 rfl⟩ (fun hHeld => ?_)
             clear hK K
             refine norm_ (a' := ?_) ?_ ?_
             rotate_left; · (show Act.put _ (some 9) _ = _; simp only [Act.put, List.setIfInBounds_toArray, List.set_cons_zero, List.set_cons_succ, i64_w, i32_w]; rfl)
             exact norm_ (by first | (simp only [putAll, Act.put, List.setIfInBounds_toArray, List.set_cons_zero, List.set_cons_succ]; done) | (simp only [putAll, Act.put, List.setIfInBounds_toArray, List.set_cons_zero, List.set_cons_succ]; rfl)) (hJ8_9 (gb636, gb637) _ ⟨hHeld, BK630.out, BK631.out, BK636.out, BK637.out, GW636.out, GE636.out, NB630_636.out, NB636_630.out, NB631_636.out, NB636_631.out, NB637_636.out, NB636_637.out, GW637.out, GE637.out, NB630_637.out, NB637_630.out, NB631_637.out, NB637_631.out, (by repeat (first | (with_reducible first | exact HB.out | apply below_alloc | apply pw_below_drewN | apply below_drew1 | refine below_set ?_ GE630.out | refine below_set ?_ GE631.out | refine below_set ?_ GE637.out | refine below_set ?_ GE636.out) | exact HB.out))⟩)
          ·
           skip
           rintro gb636 w14 ⟨hS_, h0_, h1_, h2_, h3_, h4_, h5_, h6_, h7_, h8_, h9_⟩
           have n0_ : Aside0 (w14.heap[gb630]? = some (.cells #[.int .i64 a1_0, .int .i64 a1_1] 49 (0, 0))) := ⟨h0_⟩
           have n1_ : Aside0 (w14.heap[gb631]? = some (.cells #[.int .i64 a2_0, .int .i64 a2_1, .int .i64 a2_2, .int .i64 a2_3] 87 (0, 0))) := ⟨h1_⟩
           have n2_ : Aside0 (w14.heap[gb636]? = some (.cells #[.int .i64 0, .int .i64 0] 59 (0, 0))) := ⟨h2_⟩
           have n3_ : Aside0 (w.heap.size ≤ gb636) := ⟨h3_⟩
           have n4_ : Aside0 (w.heap.size ≤ gb636) := ⟨h4_⟩
           have n5_ : Aside0 (gb630 ≠ gb636) := ⟨h5_⟩
           have n6_ : Aside0 (gb636 ≠ gb630) := ⟨h6_⟩
           have n7_ : Aside0 (gb631 ≠ gb636) := ⟨h7_⟩
           have n8_ : Aside0 (gb636 ≠ gb631) := ⟨h8_⟩
           have n9_ : Aside0 (Below w.heap.size w w14) := ⟨h9_⟩
           clear BK630
           clear BK631
           clear HB
           clear h0_ h1_ h2_ h3_ h4_ h5_ h6_ h7_ h8_ h9_
           have BK630 := n0_
           have BK631 := n1_
           have BK636 := n2_
           have GW636 := n3_
           have GE636 := n4_
           have NB630_636 := n5_
           have NB636_630 := n6_
           have NB631_636 := n7_
           have NB636_631 := n8_
           have HB := n9_
           clear n0_ n1_ n2_ n3_ n4_ n5_ n6_ n7_ n8_ n9_
           have hHeld : w14.cell? ⟨gb631, 0, none⟩ = some (.int .i64 a2_0) ∧ w14.cell? ⟨gb631, 1, none⟩ = some (.int .i64 a2_1) ∧ w14.cell? ⟨gb631, 2, none⟩ = some (.int .i64 a2_2) ∧ w14.cell? ⟨gb631, 3, none⟩ = some (.int .i64 a2_3) := hS_
           refine norm_ (a' := ?_) ?_ ?_
           rotate_left
           ·
            simp only [putAll, Act.put, List.setIfInBounds_toArray, List.set_cons_zero, List.set_cons_succ]
            rfl
           refine two_ (i := 3) (j := 9) (Ni := some 28) (Nj := some 10) #[true, true, true, true, true, true, true, false, true, false, false, false] #[true, true, true, false, true, true, true, false, true, true, false, false] rfl rfl rfl rfl (two_of HT_.out (by kernel_rfl)) (by decide) (by decide) (fun K hK => ?_) (fun K hK => ?_)
           ·
            skip
            refine goes_ Try.func59 (by kernel_rfl) rfl #[.agg #[.int .i64 a2_0, .int .i64 a2_1], .int .i64 a1_0] (by rfl) rfl rfl (mapq rfl) ?_
            with_reducible refine (avermentlaw10_about.calls a2_0 a2_1 a1_0 t632 t633 _ A4.out).mono ?_
            rintro e w15 ⟨rfl, hb⟩
            refine ⟨_, rfl, ?_⟩
            replace BK630 := bb BK630 hb rfl; replace BK631 := bb BK631 hb rfl; replace BK636 := bb BK636 hb rfl; replace HB := hst HB hb rfl
            (try clear hb)
            refine hK.out _ _ ⟨bc BK631 0 rfl, bc BK631 1 rfl, bc BK631 2 rfl, bc BK631 3 rfl⟩ (fun hHeld => ?_)
            clear hK K
            refine norm_ (a' := ?_) ?_ ?_
            rotate_left; · (show Act.put _ (some 28) _ = _; simp only [Act.put, List.setIfInBounds_toArray, List.set_cons_zero, List.set_cons_succ, i64_w, i32_w]; rfl)
            exact norm_ (by first | (simp only [putAll, Act.put, List.setIfInBounds_toArray, List.set_cons_zero, List.set_cons_succ]; done) | (simp only [putAll, Act.put, List.setIfInBounds_toArray, List.set_cons_zero, List.set_cons_succ]; rfl)) (hJ3_8 (gb636) _ ⟨hHeld, BK630.out, BK631.out, BK636.out, GW636.out, GE636.out, NB630_636.out, NB636_630.out, NB631_636.out, NB636_631.out, (by repeat (first | (with_reducible first | exact HB.out | apply below_alloc | apply pw_below_drewN | apply below_drew1 | refine below_set ?_ GE630.out | refine below_set ?_ GE631.out | refine below_set ?_ GE636.out) | exact HB.out))⟩)
           ·
            skip
            refine box_step ?hg (N := 10) ?hd (cs := #[.int .i64 0, .int .i64 0]) (t := 59) ?hr ?_; (case hd => rfl); (case hg => rfl); (case hr => first | (go_simp; done) | (go_simp; rfl))
            intro gb637 hg w15 hbox hb
            have BK637 := Aside0.mk (hbox)
            have GW637 := geb hg HB rfl
            have GE637 := geb hg HB rfl
            have NB630_637 := nbl hg BK630 rfl
            have NB637_630 := nbr hg BK630 rfl
            have NB631_637 := nbl hg BK631 rfl
            have NB637_631 := nbr hg BK631 rfl
            have NB636_637 := nbl hg BK636 rfl
            have NB637_636 := nbr hg BK636 rfl
            replace BK630 := bb BK630 hb rfl; replace BK631 := bb BK631 hb rfl; replace BK636 := bb BK636 hb rfl; replace HB := hst HB hb rfl
            clear hb hbox hg
            refine hK.out _ _ ⟨bc BK631 0 rfl, bc BK631 1 rfl, bc BK631 2 rfl, bc BK631 3 rfl⟩ (fun hHeld => ?_)
            clear hK K
            refine norm_ (a' := ?_) ?_ ?_
            rotate_left; · (show Act.put _ (some 10) _ = _; simp only [Act.put, List.setIfInBounds_toArray, List.set_cons_zero, List.set_cons_succ, i64_w, i32_w]; rfl)
            exact norm_ (by first | (simp only [putAll, Act.put, List.setIfInBounds_toArray, List.set_cons_zero, List.set_cons_succ]; done) | (simp only [putAll, Act.put, List.setIfInBounds_toArray, List.set_cons_zero, List.set_cons_succ]; rfl)) (hJ8_9 (gb636, gb637) _ ⟨hHeld, BK630.out, BK631.out, BK636.out, BK637.out, GW636.out, GE636.out, NB630_636.out, NB636_630.out, NB631_636.out, NB636_631.out, NB637_636.out, NB636_637.out, GW637.out, GE637.out, NB630_637.out, NB637_630.out, NB631_637.out, NB637_631.out, (by repeat (first | (with_reducible first | exact HB.out | apply below_alloc | apply pw_below_drewN | apply below_drew1 | refine below_set ?_ GE630.out | refine below_set ?_ GE631.out | refine below_set ?_ GE636.out | refine below_set ?_ GE637.out) | exact HB.out))⟩)
         ·
          skip
          rintro _ w14 ⟨hS_, h0_, h1_, h2_⟩
          have n0_ : Aside0 (w14.heap[gb630]? = some (.cells #[.int .i64 a1_0, .int .i64 a1_1] 49 (0, 0))) := ⟨h0_⟩
          have n1_ : Aside0 (w14.heap[gb631]? = some (.cells #[.int .i64 a2_0, .int .i64 a2_1, .int .i64 a2_2, .int .i64 a2_3] 87 (0, 0))) := ⟨h1_⟩
          have n2_ : Aside0 (Below w.heap.size w w14) := ⟨h2_⟩
          clear BK630
          clear BK631
          clear HB
          clear h0_ h1_ h2_
          have BK630 := n0_
          have BK631 := n1_
          have HB := n2_
          clear n0_ n1_ n2_
          have hHeld : w14.cell? ⟨gb631, 0, none⟩ = some (.int .i64 a2_0) ∧ w14.cell? ⟨gb631, 1, none⟩ = some (.int .i64 a2_1) ∧ w14.cell? ⟨gb631, 2, none⟩ = some (.int .i64 a2_2) ∧ w14.cell? ⟨gb631, 3, none⟩ = some (.int .i64 a2_3) := hS_
          refine norm_ (a' := ?_) ?_ ?_
          rotate_left
          ·
           simp only [putAll, Act.put, List.setIfInBounds_toArray, List.set_cons_zero, List.set_cons_succ]
           rfl
          refine three_ (i := 7) (j := 8) (k := 9) (Ni := some 32) (Nj := some 9) (Nk := some 10) #[true, true, true, true, true, true, true, true, false, false, false, false] #[true, true, true, true, true, true, true, false, true, false, false, false] #[true, true, true, true, true, true, true, false, false, true, false, false] rfl rfl rfl rfl rfl rfl (three_of HT_.out (by kernel_rfl)) (by decide) (by decide) (by decide) (fun K hK => ?_) (fun K hK => ?_) (fun K hK => ?_)
          ·
           skip
           refine goes_ Try.func59 (by kernel_rfl) rfl #[.agg #[.int .i64 a2_2, .int .i64 a2_3], .int .i64 a1_1] (by rfl) rfl rfl (mapq rfl) ?_
           with_reducible refine (avermentlaw10_about.calls a2_2 a2_3 a1_1 t634 t635 _ A5.out).mono ?_
           rintro e w15 ⟨rfl, hb⟩
           refine ⟨_, rfl, ?_⟩
           replace BK630 := bb BK630 hb rfl; replace BK631 := bb BK631 hb rfl; replace HB := hst HB hb rfl
           (try clear hb)
           refine hK.out _ _ ⟨bc BK631 0 rfl, bc BK631 1 rfl, bc BK631 2 rfl, bc BK631 3 rfl⟩ (fun hHeld => ?_)
           clear hK K
           refine norm_ (a' := ?_) ?_ ?_
           rotate_left; · (show Act.put _ (some 32) _ = _; simp only [Act.put, List.setIfInBounds_toArray, List.set_cons_zero, List.set_cons_succ, i64_w, i32_w]; rfl)
           exact norm_ (by first | (simp only [putAll, Act.put, List.setIfInBounds_toArray, List.set_cons_zero, List.set_cons_succ]; done) | (simp only [putAll, Act.put, List.setIfInBounds_toArray, List.set_cons_zero, List.set_cons_succ]; rfl)) (hJ3_7 () _ ⟨hHeld, BK630.out, BK631.out, (by repeat (first | (with_reducible first | exact HB.out | apply below_alloc | apply pw_below_drewN | apply below_drew1 | refine below_set ?_ GE630.out | refine below_set ?_ GE631.out) | exact HB.out))⟩)
          ·
           skip
           refine box_step ?hg (N := 9) ?hd (cs := #[.int .i64 0, .int .i64 0]) (t := 59) ?hr ?_; (case hd => rfl); (case hg => rfl); (case hr => first | (go_simp; done) | (go_simp; rfl))
           intro gb636 hg w15 hbox hb
           have BK636 := Aside0.mk (hbox)
           have GW636 := geb hg HB rfl
           have GE636 := geb hg HB rfl
           have NB630_636 := nbl hg BK630 rfl
           have NB636_630 := nbr hg BK630 rfl
           have NB631_636 := nbl hg BK631 rfl
           have NB636_631 := nbr hg BK631 rfl
           replace BK630 := bb BK630 hb rfl; replace BK631 := bb BK631 hb rfl; replace HB := hst HB hb rfl
           clear hb hbox hg
           refine hK.out _ _ ⟨bc BK631 0 rfl, bc BK631 1 rfl, bc BK631 2 rfl, bc BK631 3 rfl⟩ (fun hHeld => ?_)
           clear hK K
           refine norm_ (a' := ?_) ?_ ?_
           rotate_left; · (show Act.put _ (some 9) _ = _; simp only [Act.put, List.setIfInBounds_toArray, List.set_cons_zero, List.set_cons_succ, i64_w, i32_w]; rfl)
           exact norm_ (by first | (simp only [putAll, Act.put, List.setIfInBounds_toArray, List.set_cons_zero, List.set_cons_succ]; done) | (simp only [putAll, Act.put, List.setIfInBounds_toArray, List.set_cons_zero, List.set_cons_succ]; rfl)) (hJ3_8 (gb636) _ ⟨hHeld, BK630.out, BK631.out, BK636.out, GW636.out, GE636.out, NB630_636.out, NB636_630.out, NB631_636.out, NB636_631.out, (by repeat (first | (with_reducible first | exact HB.out | apply below_alloc | apply pw_below_drewN | apply below_drew1 | refine below_set ?_ GE630.out | refine below_set ?_ GE631.out | refine below_set ?_ GE636.out) | exact HB.out))⟩)
          ·
           skip
           refine box_step ?hg (N := 10) ?hd (cs := #[.int .i64 0, .int .i64 0]) (t := 59) ?hr ?_; (case hd => rfl); (case hg => rfl); (case hr => first | (go_simp; done) | (go_simp; rfl))
           intro gb637 hg w15 hbox hb
           have BK637 := Aside0.mk (hbox)
           have GW637 := geb hg HB rfl
           have GE637 := geb hg HB rfl
           have NB630_637 := nbl hg BK630 rfl
           have NB637_630 := nbr hg BK630 rfl
           have NB631_637 := nbl hg BK631 rfl
           have NB637_631 := nbr hg BK631 rfl
           replace BK630 := bb BK630 hb rfl; replace BK631 := bb BK631 hb rfl; replace HB := hst HB hb rfl
           clear hb hbox hg
           refine hK.out _ _ ⟨bc BK631 0 rfl, bc BK631 1 rfl, bc BK631 2 rfl, bc BK631 3 rfl⟩ (fun hHeld => ?_)
           clear hK K
           refine norm_ (a' := ?_) ?_ ?_
           rotate_left; · (show Act.put _ (some 10) _ = _; simp only [Act.put, List.setIfInBounds_toArray, List.set_cons_zero, List.set_cons_succ, i64_w, i32_w]; rfl)
           exact norm_ (by first | (simp only [putAll, Act.put, List.setIfInBounds_toArray, List.set_cons_zero, List.set_cons_succ]; done) | (simp only [putAll, Act.put, List.setIfInBounds_toArray, List.set_cons_zero, List.set_cons_succ]; rfl)) (hJ3_9 (gb637) _ ⟨hHeld, BK630.out, BK631.out, BK637.out, GW637.out, GE637.out, NB630_637.out, NB637_630.out, NB631_637.out, NB637_631.out, (by repeat (first | (with_reducible first | exact HB.out | apply below_alloc | apply pw_below_drewN | apply below_drew1 | refine below_set ?_ GE630.out | refine below_set ?_ GE631.out | refine below_set ?_ GE637.out) | exact HB.out))⟩)
        ·
         skip
         rintro ⟨gb636, gb637⟩ w15 ⟨hS_, h0_, h1_, h2_, h3_, h4_, h5_, h6_, h7_, h8_, h9_, h10_, h11_, h12_, h13_, h14_, h15_, h16_, h17_, h18_⟩
         have n0_ : Aside0 (w15.heap[gb630]? = some (.cells #[.int .i64 a1_0, .int .i64 a1_1] 49 (0, 0))) := ⟨h0_⟩
         have n1_ : Aside0 (w15.heap[gb631]? = some (.cells #[.int .i64 a2_0, .int .i64 a2_1, .int .i64 a2_2, .int .i64 a2_3] 87 (0, 0))) := ⟨h1_⟩
         have n2_ : Aside0 (w15.heap[gb636]? = some (.cells #[.int .i64 0, .int .i64 0] 59 (0, 0))) := ⟨h2_⟩
         have n3_ : Aside0 (w15.heap[gb637]? = some (.cells #[.int .i64 0, .int .i64 0] 59 (0, 0))) := ⟨h3_⟩
         have n4_ : Aside0 (w.heap.size ≤ gb636) := ⟨h4_⟩
         have n5_ : Aside0 (w.heap.size ≤ gb636) := ⟨h5_⟩
         have n6_ : Aside0 (gb630 ≠ gb636) := ⟨h6_⟩
         have n7_ : Aside0 (gb636 ≠ gb630) := ⟨h7_⟩
         have n8_ : Aside0 (gb631 ≠ gb636) := ⟨h8_⟩
         have n9_ : Aside0 (gb636 ≠ gb631) := ⟨h9_⟩
         have n10_ : Aside0 (gb637 ≠ gb636) := ⟨h10_⟩
         have n11_ : Aside0 (gb636 ≠ gb637) := ⟨h11_⟩
         have n12_ : Aside0 (w.heap.size ≤ gb637) := ⟨h12_⟩
         have n13_ : Aside0 (w.heap.size ≤ gb637) := ⟨h13_⟩
         have n14_ : Aside0 (gb630 ≠ gb637) := ⟨h14_⟩
         have n15_ : Aside0 (gb637 ≠ gb630) := ⟨h15_⟩
         have n16_ : Aside0 (gb631 ≠ gb637) := ⟨h16_⟩
         have n17_ : Aside0 (gb637 ≠ gb631) := ⟨h17_⟩
         have n18_ : Aside0 (Below w.heap.size w w15) := ⟨h18_⟩
         clear BK630
         clear BK631
         clear HB
         clear h0_ h1_ h2_ h3_ h4_ h5_ h6_ h7_ h8_ h9_ h10_ h11_ h12_ h13_ h14_ h15_ h16_ h17_ h18_
         have BK630 := n0_
         have BK631 := n1_
         have BK636 := n2_
         have BK637 := n3_
         have GW636 := n4_
         have GE636 := n5_
         have NB630_636 := n6_
         have NB636_630 := n7_
         have NB631_636 := n8_
         have NB636_631 := n9_
         have NB637_636 := n10_
         have NB636_637 := n11_
         have GW637 := n12_
         have GE637 := n13_
         have NB630_637 := n14_
         have NB637_630 := n15_
         have NB631_637 := n16_
         have NB637_631 := n17_
         have HB := n18_
         clear n0_ n1_ n2_ n3_ n4_ n5_ n6_ n7_ n8_ n9_ n10_ n11_ n12_ n13_ n14_ n15_ n16_ n17_ n18_
         have hHeld : w15.cell? ⟨gb631, 0, none⟩ = some (.int .i64 a2_0) ∧ w15.cell? ⟨gb631, 1, none⟩ = some (.int .i64 a2_1) ∧ w15.cell? ⟨gb631, 2, none⟩ = some (.int .i64 a2_2) ∧ w15.cell? ⟨gb631, 3, none⟩ = some (.int .i64 a2_3) := hS_
         refine norm_ (a' := ?_) ?_ ?_
         rotate_left
         ·
          simp only [putAll, Act.put, List.setIfInBounds_toArray, List.set_cons_zero, List.set_cons_succ]
          rfl
         refine one_ (i := 3) (N := some 28) #[true, true, true, true, true, true, true, false, true, true, false, false] rfl rfl (one_of HT_.out (by kernel_rfl)) (by decide) (fun K hK => ?_)
         refine goes_ Try.func59 (by kernel_rfl) rfl #[.agg #[.int .i64 a2_0, .int .i64 a2_1], .int .i64 a1_0] (by rfl) rfl rfl (mapq rfl) ?_
         with_reducible refine (avermentlaw10_about.calls a2_0 a2_1 a1_0 t632 t633 _ A4.out).mono ?_
         rintro e w16 ⟨rfl, hb⟩
         refine ⟨_, rfl, ?_⟩
         replace BK630 := bb BK630 hb rfl; replace BK631 := bb BK631 hb rfl; replace BK636 := bb BK636 hb rfl; replace BK637 := bb BK637 hb rfl; replace HB := hst HB hb rfl
         (try clear hb)
         refine hK.out _ _ ⟨bc BK631 0 rfl, bc BK631 1 rfl, bc BK631 2 rfl, bc BK631 3 rfl⟩ (fun hHeld => ?_)
         clear hK K
         refine norm_ (a' := ?_) ?_ ?_
         rotate_left; · (show Act.put _ (some 28) _ = _; simp only [Act.put, List.setIfInBounds_toArray, List.set_cons_zero, List.set_cons_succ, i64_w, i32_w]; rfl)
         exact norm_ (by first | (simp only [putAll, Act.put, List.setIfInBounds_toArray, List.set_cons_zero, List.set_cons_succ]; done) | (simp only [putAll, Act.put, List.setIfInBounds_toArray, List.set_cons_zero, List.set_cons_succ]; rfl)) (hJ3_8_9 (gb636, gb637) _ ⟨hHeld, BK630.out, BK631.out, BK636.out, BK637.out, GW636.out, GE636.out, NB630_636.out, NB636_630.out, NB631_636.out, NB636_631.out, NB637_636.out, NB636_637.out, GW637.out, GE637.out, NB630_637.out, NB637_630.out, NB631_637.out, NB637_631.out, (by repeat (first | (with_reducible first | exact HB.out | apply below_alloc | apply pw_below_drewN | apply below_drew1 | refine below_set ?_ GE630.out | refine below_set ?_ GE631.out | refine below_set ?_ GE636.out | refine below_set ?_ GE637.out) | exact HB.out))⟩)
       ·
        skip
        rintro gb637 w15 ⟨hS_, h0_, h1_, h2_, h3_, h4_, h5_, h6_, h7_, h8_, h9_⟩
        have n0_ : Aside0 (w15.heap[gb630]? = some (.cells #[.int .i64 a1_0, .int .i64 a1_1] 49 (0, 0))) := ⟨h0_⟩
        have n1_ : Aside0 (w15.heap[gb631]? = some (.cells #[.int .i64 a2_0, .int .i64 a2_1, .int .i64 a2_2, .int .i64 a2_3] 87 (0, 0))) := ⟨h1_⟩
        have n2_ : Aside0 (w15.heap[gb637]? = some (.cells #[.int .i64 0, .int .i64 0] 59 (0, 0))) := ⟨h2_⟩
        have n3_ : Aside0 (w.heap.size ≤ gb637) := ⟨h3_⟩
        have n4_ : Aside0 (w.heap.size ≤ gb637) := ⟨h4_⟩
        have n5_ : Aside0 (gb630 ≠ gb637) := ⟨h5_⟩
        have n6_ : Aside0 (gb637 ≠ gb630) := ⟨h6_⟩
        have n7_ : Aside0 (gb631 ≠ gb637) := ⟨h7_⟩
        have n8_ : Aside0 (gb637 ≠ gb631) := ⟨h8_⟩
        have n9_ : Aside0 (Below w.heap.size w w15) := ⟨h9_⟩
        clear BK630
        clear BK631
        clear HB
        clear h0_ h1_ h2_ h3_ h4_ h5_ h6_ h7_ h8_ h9_
        have BK630 := n0_
        have BK631 := n1_
        have BK637 := n2_
        have GW637 := n3_
        have GE637 := n4_
        have NB630_637 := n5_
        have NB637_630 := n6_
        have NB631_637 := n7_
        have NB637_631 := n8_
        have HB := n9_
        clear n0_ n1_ n2_ n3_ n4_ n5_ n6_ n7_ n8_ n9_
        have hHeld : w15.cell? ⟨gb631, 0, none⟩ = some (.int .i64 a2_0) ∧ w15.cell? ⟨gb631, 1, none⟩ = some (.int .i64 a2_1) ∧ w15.cell? ⟨gb631, 2, none⟩ = some (.int .i64 a2_2) ∧ w15.cell? ⟨gb631, 3, none⟩ = some (.int .i64 a2_3) := hS_
        refine norm_ (a' := ?_) ?_ ?_
        rotate_left
        ·
         simp only [putAll, Act.put, List.setIfInBounds_toArray, List.set_cons_zero, List.set_cons_succ]
         rfl
        refine two_ (i := 7) (j := 8) (Ni := some 32) (Nj := some 9) #[true, true, true, true, true, true, true, true, false, true, false, false] #[true, true, true, true, true, true, true, false, true, true, false, false] rfl rfl rfl rfl (two_of HT_.out (by kernel_rfl)) (by decide) (by decide) (fun K hK => ?_) (fun K hK => ?_)
        ·
         skip
         refine goes_ Try.func59 (by kernel_rfl) rfl #[.agg #[.int .i64 a2_2, .int .i64 a2_3], .int .i64 a1_1] (by rfl) rfl rfl (mapq rfl) ?_
         with_reducible refine (avermentlaw10_about.calls a2_2 a2_3 a1_1 t634 t635 _ A5.out).mono ?_
         rintro e w16 ⟨rfl, hb⟩
         refine ⟨_, rfl, ?_⟩
         replace BK630 := bb BK630 hb rfl; replace BK631 := bb BK631 hb rfl; replace BK637 := bb BK637 hb rfl; replace HB := hst HB hb rfl
         (try clear hb)
         refine hK.out _ _ ⟨bc BK631 0 rfl, bc BK631 1 rfl, bc BK631 2 rfl, bc BK631 3 rfl⟩ (fun hHeld => ?_)
         clear hK K
         refine norm_ (a' := ?_) ?_ ?_
         rotate_left; · (show Act.put _ (some 32) _ = _; simp only [Act.put, List.setIfInBounds_toArray, List.set_cons_zero, List.set_cons_succ, i64_w, i32_w]; rfl)
         exact norm_ (by first | (simp only [putAll, Act.put, List.setIfInBounds_toArray, List.set_cons_zero, List.set_cons_succ]; done) | (simp only [putAll, Act.put, List.setIfInBounds_toArray, List.set_cons_zero, List.set_cons_succ]; rfl)) (hJ3_7_9 (gb637) _ ⟨hHeld, BK630.out, BK631.out, BK637.out, GW637.out, GE637.out, NB630_637.out, NB637_630.out, NB631_637.out, NB637_631.out, (by repeat (first | (with_reducible first | exact HB.out | apply below_alloc | apply pw_below_drewN | apply below_drew1 | refine below_set ?_ GE630.out | refine below_set ?_ GE631.out | refine below_set ?_ GE637.out) | exact HB.out))⟩)
        ·
         skip
         refine box_step ?hg (N := 9) ?hd (cs := #[.int .i64 0, .int .i64 0]) (t := 59) ?hr ?_; (case hd => rfl); (case hg => rfl); (case hr => first | (go_simp; done) | (go_simp; rfl))
         intro gb636 hg w16 hbox hb
         have BK636 := Aside0.mk (hbox)
         have GW636 := geb hg HB rfl
         have GE636 := geb hg HB rfl
         have NB630_636 := nbl hg BK630 rfl
         have NB636_630 := nbr hg BK630 rfl
         have NB631_636 := nbl hg BK631 rfl
         have NB636_631 := nbr hg BK631 rfl
         have NB637_636 := nbl hg BK637 rfl
         have NB636_637 := nbr hg BK637 rfl
         replace BK630 := bb BK630 hb rfl; replace BK631 := bb BK631 hb rfl; replace BK637 := bb BK637 hb rfl; replace HB := hst HB hb rfl
         clear hb hbox hg
         refine hK.out _ _ ⟨bc BK631 0 rfl, bc BK631 1 rfl, bc BK631 2 rfl, bc BK631 3 rfl⟩ (fun hHeld => ?_)
         clear hK K
         refine norm_ (a' := ?_) ?_ ?_
         rotate_left; · (show Act.put _ (some 9) _ = _; simp only [Act.put, List.setIfInBounds_toArray, List.set_cons_zero, List.set_cons_succ, i64_w, i32_w]; rfl)
         exact norm_ (by first | (simp only [putAll, Act.put, List.setIfInBounds_toArray, List.set_cons_zero, List.set_cons_succ]; done) | (simp only [putAll, Act.put, List.setIfInBounds_toArray, List.set_cons_zero, List.set_cons_succ]; rfl)) (hJ3_8_9 (gb636, gb637) _ ⟨hHeld, BK630.out, BK631.out, BK636.out, BK637.out, GW636.out, GE636.out, NB630_636.out, NB636_630.out, NB631_636.out, NB636_631.out, NB637_636.out, NB636_637.out, GW637.out, GE637.out, NB630_637.out, NB637_630.out, NB631_637.out, NB637_631.out, (by repeat (first | (with_reducible first | exact HB.out | apply below_alloc | apply pw_below_drewN | apply below_drew1 | refine below_set ?_ GE630.out | refine below_set ?_ GE631.out | refine below_set ?_ GE637.out | refine below_set ?_ GE636.out) | exact HB.out))⟩)
      ·
       skip
       rintro gb636 w15 ⟨hS_, h0_, h1_, h2_, h3_, h4_, h5_, h6_, h7_, h8_, h9_⟩
       have n0_ : Aside0 (w15.heap[gb630]? = some (.cells #[.int .i64 a1_0, .int .i64 a1_1] 49 (0, 0))) := ⟨h0_⟩
       have n1_ : Aside0 (w15.heap[gb631]? = some (.cells #[.int .i64 a2_0, .int .i64 a2_1, .int .i64 a2_2, .int .i64 a2_3] 87 (0, 0))) := ⟨h1_⟩
       have n2_ : Aside0 (w15.heap[gb636]? = some (.cells #[.int .i64 0, .int .i64 0] 59 (0, 0))) := ⟨h2_⟩
       have n3_ : Aside0 (w.heap.size ≤ gb636) := ⟨h3_⟩
       have n4_ : Aside0 (w.heap.size ≤ gb636) := ⟨h4_⟩
       have n5_ : Aside0 (gb630 ≠ gb636) := ⟨h5_⟩
       have n6_ : Aside0 (gb636 ≠ gb630) := ⟨h6_⟩
       have n7_ : Aside0 (gb631 ≠ gb636) := ⟨h7_⟩
       have n8_ : Aside0 (gb636 ≠ gb631) := ⟨h8_⟩
       have n9_ : Aside0 (Below w.heap.size w w15) := ⟨h9_⟩
       clear BK630
       clear BK631
       clear HB
       clear h0_ h1_ h2_ h3_ h4_ h5_ h6_ h7_ h8_ h9_
       have BK630 := n0_
       have BK631 := n1_
       have BK636 := n2_
       have GW636 := n3_
       have GE636 := n4_
       have NB630_636 := n5_
       have NB636_630 := n6_
       have NB631_636 := n7_
       have NB636_631 := n8_
       have HB := n9_
       clear n0_ n1_ n2_ n3_ n4_ n5_ n6_ n7_ n8_ n9_
       have hHeld : w15.cell? ⟨gb631, 0, none⟩ = some (.int .i64 a2_0) ∧ w15.cell? ⟨gb631, 1, none⟩ = some (.int .i64 a2_1) ∧ w15.cell? ⟨gb631, 2, none⟩ = some (.int .i64 a2_2) ∧ w15.cell? ⟨gb631, 3, none⟩ = some (.int .i64 a2_3) := hS_
       refine norm_ (a' := ?_) ?_ ?_
       rotate_left
       ·
        simp only [putAll, Act.put, List.setIfInBounds_toArray, List.set_cons_zero, List.set_cons_succ]
        rfl
       refine two_ (i := 7) (j := 9) (Ni := some 32) (Nj := some 10) #[true, true, true, true, true, true, true, true, true, false, false, false] #[true, true, true, true, true, true, true, false, true, true, false, false] rfl rfl rfl rfl (two_of HT_.out (by kernel_rfl)) (by decide) (by decide) (fun K hK => ?_) (fun K hK => ?_)
       ·
        skip
        refine goes_ Try.func59 (by kernel_rfl) rfl #[.agg #[.int .i64 a2_2, .int .i64 a2_3], .int .i64 a1_1] (by rfl) rfl rfl (mapq rfl) ?_
        with_reducible refine (avermentlaw10_about.calls a2_2 a2_3 a1_1 t634 t635 _ A5.out).mono ?_
        rintro e w16 ⟨rfl, hb⟩
        refine ⟨_, rfl, ?_⟩
        replace BK630 := bb BK630 hb rfl; replace BK631 := bb BK631 hb rfl; replace BK636 := bb BK636 hb rfl; replace HB := hst HB hb rfl
        (try clear hb)
        refine hK.out _ _ ⟨bc BK631 0 rfl, bc BK631 1 rfl, bc BK631 2 rfl, bc BK631 3 rfl⟩ (fun hHeld => ?_)
        clear hK K
        refine norm_ (a' := ?_) ?_ ?_
        rotate_left; · (show Act.put _ (some 32) _ = _; simp only [Act.put, List.setIfInBounds_toArray, List.set_cons_zero, List.set_cons_succ, i64_w, i32_w]; rfl)
        exact norm_ (by first | (simp only [putAll, Act.put, List.setIfInBounds_toArray, List.set_cons_zero, List.set_cons_succ]; done) | (simp only [putAll, Act.put, List.setIfInBounds_toArray, List.set_cons_zero, List.set_cons_succ]; rfl)) (hJ3_7_8 (gb636) _ ⟨hHeld, BK630.out, BK631.out, BK636.out, GW636.out, GE636.out, NB630_636.out, NB636_630.out, NB631_636.out, NB636_631.out, (by repeat (first | (with_reducible first | exact HB.out | apply below_alloc | apply pw_below_drewN | apply below_drew1 | refine below_set ?_ GE630.out | refine below_set ?_ GE631.out | refine below_set ?_ GE636.out) | exact HB.out))⟩)
       ·
        skip
        refine box_step ?hg (N := 10) ?hd (cs := #[.int .i64 0, .int .i64 0]) (t := 59) ?hr ?_; (case hd => rfl); (case hg => rfl); (case hr => first | (go_simp; done) | (go_simp; rfl))
        intro gb637 hg w16 hbox hb
        have BK637 := Aside0.mk (hbox)
        have GW637 := geb hg HB rfl
        have GE637 := geb hg HB rfl
        have NB630_637 := nbl hg BK630 rfl
        have NB637_630 := nbr hg BK630 rfl
        have NB631_637 := nbl hg BK631 rfl
        have NB637_631 := nbr hg BK631 rfl
        have NB636_637 := nbl hg BK636 rfl
        have NB637_636 := nbr hg BK636 rfl
        replace BK630 := bb BK630 hb rfl; replace BK631 := bb BK631 hb rfl; replace BK636 := bb BK636 hb rfl; replace HB := hst HB hb rfl
        clear hb hbox hg
        refine hK.out _ _ ⟨bc BK631 0 rfl, bc BK631 1 rfl, bc BK631 2 rfl, bc BK631 3 rfl⟩ (fun hHeld => ?_)
        clear hK K
        refine norm_ (a' := ?_) ?_ ?_
        rotate_left; · (show Act.put _ (some 10) _ = _; simp only [Act.put, List.setIfInBounds_toArray, List.set_cons_zero, List.set_cons_succ, i64_w, i32_w]; rfl)
        exact norm_ (by first | (simp only [putAll, Act.put, List.setIfInBounds_toArray, List.set_cons_zero, List.set_cons_succ]; done) | (simp only [putAll, Act.put, List.setIfInBounds_toArray, List.set_cons_zero, List.set_cons_succ]; rfl)) (hJ3_8_9 (gb636, gb637) _ ⟨hHeld, BK630.out, BK631.out, BK636.out, BK637.out, GW636.out, GE636.out, NB630_636.out, NB636_630.out, NB631_636.out, NB636_631.out, NB637_636.out, NB636_637.out, GW637.out, GE637.out, NB630_637.out, NB637_630.out, NB631_637.out, NB637_631.out, (by repeat (first | (with_reducible first | exact HB.out | apply below_alloc | apply pw_below_drewN | apply below_drew1 | refine below_set ?_ GE630.out | refine below_set ?_ GE631.out | refine below_set ?_ GE636.out | refine below_set ?_ GE637.out) | exact HB.out))⟩)
     ·
      skip
      rintro _ w15 ⟨hS_, h0_, h1_, h2_⟩
      have n0_ : Aside0 (w15.heap[gb630]? = some (.cells #[.int .i64 a1_0, .int .i64 a1_1] 49 (0, 0))) := ⟨h0_⟩
      have n1_ : Aside0 (w15.heap[gb631]? = some (.cells #[.int .i64 a2_0, .int .i64 a2_1, .int .i64 a2_2, .int .i64 a2_3] 87 (0, 0))) := ⟨h1_⟩
      have n2_ : Aside0 (Below w.heap.size w w15) := ⟨h2_⟩
      clear BK630
      clear BK631
      clear HB
      clear h0_ h1_ h2_
      have BK630 := n0_
      have BK631 := n1_
      have HB := n2_
      clear n0_ n1_ n2_
      have hHeld : w15.cell? ⟨gb631, 0, none⟩ = some (.int .i64 a2_0) ∧ w15.cell? ⟨gb631, 1, none⟩ = some (.int .i64 a2_1) ∧ w15.cell? ⟨gb631, 2, none⟩ = some (.int .i64 a2_2) ∧ w15.cell? ⟨gb631, 3, none⟩ = some (.int .i64 a2_3) := hS_
      refine norm_ (a' := ?_) ?_ ?_
      rotate_left
      ·
       simp only [putAll, Act.put, List.setIfInBounds_toArray, List.set_cons_zero, List.set_cons_succ]
       rfl
      refine two_ (i := 8) (j := 9) (Ni := some 9) (Nj := some 10) #[true, true, true, true, true, true, true, true, true, false, false, false] #[true, true, true, true, true, true, true, true, false, true, false, false] rfl rfl rfl rfl (two_of HT_.out (by kernel_rfl)) (by decide) (by decide) (fun K hK => ?_) (fun K hK => ?_)
      ·
       skip
       refine box_step ?hg (N := 9) ?hd (cs := #[.int .i64 0, .int .i64 0]) (t := 59) ?hr ?_; (case hd => rfl); (case hg => rfl); (case hr => first | (go_simp; done) | (go_simp; rfl))
       intro gb636 hg w16 hbox hb
       have BK636 := Aside0.mk (hbox)
       have GW636 := geb hg HB rfl
       have GE636 := geb hg HB rfl
       have NB630_636 := nbl hg BK630 rfl
       have NB636_630 := nbr hg BK630 rfl
       have NB631_636 := nbl hg BK631 rfl
       have NB636_631 := nbr hg BK631 rfl
       replace BK630 := bb BK630 hb rfl; replace BK631 := bb BK631 hb rfl; replace HB := hst HB hb rfl
       clear hb hbox hg
       refine hK.out _ _ ⟨bc BK631 0 rfl, bc BK631 1 rfl, bc BK631 2 rfl, bc BK631 3 rfl⟩ (fun hHeld => ?_)
       clear hK K
       refine norm_ (a' := ?_) ?_ ?_
       rotate_left; · (show Act.put _ (some 9) _ = _; simp only [Act.put, List.setIfInBounds_toArray, List.set_cons_zero, List.set_cons_succ, i64_w, i32_w]; rfl)
       exact norm_ (by first | (simp only [putAll, Act.put, List.setIfInBounds_toArray, List.set_cons_zero, List.set_cons_succ]; done) | (simp only [putAll, Act.put, List.setIfInBounds_toArray, List.set_cons_zero, List.set_cons_succ]; rfl)) (hJ3_7_8 (gb636) _ ⟨hHeld, BK630.out, BK631.out, BK636.out, GW636.out, GE636.out, NB630_636.out, NB636_630.out, NB631_636.out, NB636_631.out, (by repeat (first | (with_reducible first | exact HB.out | apply below_alloc | apply pw_below_drewN | apply below_drew1 | refine below_set ?_ GE630.out | refine below_set ?_ GE631.out | refine below_set ?_ GE636.out) | exact HB.out))⟩)
      ·
       skip
       refine box_step ?hg (N := 10) ?hd (cs := #[.int .i64 0, .int .i64 0]) (t := 59) ?hr ?_; (case hd => rfl); (case hg => rfl); (case hr => first | (go_simp; done) | (go_simp; rfl))
       intro gb637 hg w16 hbox hb
       have BK637 := Aside0.mk (hbox)
       have GW637 := geb hg HB rfl
       have GE637 := geb hg HB rfl
       have NB630_637 := nbl hg BK630 rfl
       have NB637_630 := nbr hg BK630 rfl
       have NB631_637 := nbl hg BK631 rfl
       have NB637_631 := nbr hg BK631 rfl
       replace BK630 := bb BK630 hb rfl; replace BK631 := bb BK631 hb rfl; replace HB := hst HB hb rfl
       clear hb hbox hg
       refine hK.out _ _ ⟨bc BK631 0 rfl, bc BK631 1 rfl, bc BK631 2 rfl, bc BK631 3 rfl⟩ (fun hHeld => ?_)
       clear hK K
       refine norm_ (a' := ?_) ?_ ?_
       rotate_left; · (show Act.put _ (some 10) _ = _; simp only [Act.put, List.setIfInBounds_toArray, List.set_cons_zero, List.set_cons_succ, i64_w, i32_w]; rfl)
       exact norm_ (by first | (simp only [putAll, Act.put, List.setIfInBounds_toArray, List.set_cons_zero, List.set_cons_succ]; done) | (simp only [putAll, Act.put, List.setIfInBounds_toArray, List.set_cons_zero, List.set_cons_succ]; rfl)) (hJ3_7_9 (gb637) _ ⟨hHeld, BK630.out, BK631.out, BK637.out, GW637.out, GE637.out, NB630_637.out, NB637_630.out, NB631_637.out, NB637_631.out, (by repeat (first | (with_reducible first | exact HB.out | apply below_alloc | apply pw_below_drewN | apply below_drew1 | refine below_set ?_ GE630.out | refine below_set ?_ GE631.out | refine below_set ?_ GE637.out) | exact HB.out))⟩)
    ·
     skip
     rintro ⟨gb636, gb637⟩ w16 ⟨hS_, h0_, h1_, h2_, h3_, h4_, h5_, h6_, h7_, h8_, h9_, h10_, h11_, h12_, h13_, h14_, h15_, h16_, h17_, h18_⟩
     have n0_ : Aside0 (w16.heap[gb630]? = some (.cells #[.int .i64 a1_0, .int .i64 a1_1] 49 (0, 0))) := ⟨h0_⟩
     have n1_ : Aside0 (w16.heap[gb631]? = some (.cells #[.int .i64 a2_0, .int .i64 a2_1, .int .i64 a2_2, .int .i64 a2_3] 87 (0, 0))) := ⟨h1_⟩
     have n2_ : Aside0 (w16.heap[gb636]? = some (.cells #[.int .i64 0, .int .i64 0] 59 (0, 0))) := ⟨h2_⟩
     have n3_ : Aside0 (w16.heap[gb637]? = some (.cells #[.int .i64 0, .int .i64 0] 59 (0, 0))) := ⟨h3_⟩
     have n4_ : Aside0 (w.heap.size ≤ gb636) := ⟨h4_⟩
     have n5_ : Aside0 (w.heap.size ≤ gb636) := ⟨h5_⟩
     have n6_ : Aside0 (gb630 ≠ gb636) := ⟨h6_⟩
     have n7_ : Aside0 (gb636 ≠ gb630) := ⟨h7_⟩
     have n8_ : Aside0 (gb631 ≠ gb636) := ⟨h8_⟩
     have n9_ : Aside0 (gb636 ≠ gb631) := ⟨h9_⟩
     have n10_ : Aside0 (gb637 ≠ gb636) := ⟨h10_⟩
     have n11_ : Aside0 (gb636 ≠ gb637) := ⟨h11_⟩
     have n12_ : Aside0 (w.heap.size ≤ gb637) := ⟨h12_⟩
     have n13_ : Aside0 (w.heap.size ≤ gb637) := ⟨h13_⟩
     have n14_ : Aside0 (gb630 ≠ gb637) := ⟨h14_⟩
     have n15_ : Aside0 (gb637 ≠ gb630) := ⟨h15_⟩
     have n16_ : Aside0 (gb631 ≠ gb637) := ⟨h16_⟩
     have n17_ : Aside0 (gb637 ≠ gb631) := ⟨h17_⟩
     have n18_ : Aside0 (Below w.heap.size w w16) := ⟨h18_⟩
     clear BK630
     clear BK631
     clear HB
     clear h0_ h1_ h2_ h3_ h4_ h5_ h6_ h7_ h8_ h9_ h10_ h11_ h12_ h13_ h14_ h15_ h16_ h17_ h18_
     have BK630 := n0_
     have BK631 := n1_
     have BK636 := n2_
     have BK637 := n3_
     have GW636 := n4_
     have GE636 := n5_
     have NB630_636 := n6_
     have NB636_630 := n7_
     have NB631_636 := n8_
     have NB636_631 := n9_
     have NB637_636 := n10_
     have NB636_637 := n11_
     have GW637 := n12_
     have GE637 := n13_
     have NB630_637 := n14_
     have NB637_630 := n15_
     have NB631_637 := n16_
     have NB637_631 := n17_
     have HB := n18_
     clear n0_ n1_ n2_ n3_ n4_ n5_ n6_ n7_ n8_ n9_ n10_ n11_ n12_ n13_ n14_ n15_ n16_ n17_ n18_
     have hHeld : w16.cell? ⟨gb631, 0, none⟩ = some (.int .i64 a2_0) ∧ w16.cell? ⟨gb631, 1, none⟩ = some (.int .i64 a2_1) ∧ w16.cell? ⟨gb631, 2, none⟩ = some (.int .i64 a2_2) ∧ w16.cell? ⟨gb631, 3, none⟩ = some (.int .i64 a2_3) := hS_
     refine norm_ (a' := ?_) ?_ ?_
     rotate_left
     ·
      simp only [putAll, Act.put, List.setIfInBounds_toArray, List.set_cons_zero, List.set_cons_succ]
      rfl
     refine one_ (i := 7) (N := some 32) #[true, true, true, true, true, true, true, true, true, true, false, false] rfl rfl (one_of HT_.out (by kernel_rfl)) (by decide) (fun K hK => ?_)
     refine goes_ Try.func59 (by kernel_rfl) rfl #[.agg #[.int .i64 a2_2, .int .i64 a2_3], .int .i64 a1_1] (by rfl) rfl rfl (mapq rfl) ?_
     with_reducible refine (avermentlaw10_about.calls a2_2 a2_3 a1_1 t634 t635 _ A5.out).mono ?_
     rintro e w17 ⟨rfl, hb⟩
     refine ⟨_, rfl, ?_⟩
     replace BK630 := bb BK630 hb rfl; replace BK631 := bb BK631 hb rfl; replace BK636 := bb BK636 hb rfl; replace BK637 := bb BK637 hb rfl; replace HB := hst HB hb rfl
     (try clear hb)
     refine hK.out _ _ ⟨bc BK631 0 rfl, bc BK631 1 rfl, bc BK631 2 rfl, bc BK631 3 rfl⟩ (fun hHeld => ?_)
     clear hK K
     refine norm_ (a' := ?_) ?_ ?_
     rotate_left; · (show Act.put _ (some 32) _ = _; simp only [Act.put, List.setIfInBounds_toArray, List.set_cons_zero, List.set_cons_succ, i64_w, i32_w]; rfl)
     exact norm_ (by first | (simp only [putAll, Act.put, List.setIfInBounds_toArray, List.set_cons_zero, List.set_cons_succ]; done) | (simp only [putAll, Act.put, List.setIfInBounds_toArray, List.set_cons_zero, List.set_cons_succ]; rfl)) (hJ3_7_8_9 (gb636, gb637) _ ⟨hHeld, BK630.out, BK631.out, BK636.out, BK637.out, GW636.out, GE636.out, NB630_636.out, NB636_630.out, NB631_636.out, NB636_631.out, NB637_636.out, NB636_637.out, GW637.out, GE637.out, NB630_637.out, NB637_630.out, NB631_637.out, NB637_631.out, (by repeat (first | (with_reducible first | exact HB.out | apply below_alloc | apply pw_below_drewN | apply below_drew1 | refine below_set ?_ GE630.out | refine below_set ?_ GE631.out | refine below_set ?_ GE636.out | refine below_set ?_ GE637.out) | exact HB.out))⟩)
   ·
    skip
    rintro gb637 w16 ⟨hS_, h0_, h1_, h2_, h3_, h4_, h5_, h6_, h7_, h8_, h9_⟩
    have n0_ : Aside0 (w16.heap[gb630]? = some (.cells #[.int .i64 a1_0, .int .i64 a1_1] 49 (0, 0))) := ⟨h0_⟩
    have n1_ : Aside0 (w16.heap[gb631]? = some (.cells #[.int .i64 a2_0, .int .i64 a2_1, .int .i64 a2_2, .int .i64 a2_3] 87 (0, 0))) := ⟨h1_⟩
    have n2_ : Aside0 (w16.heap[gb637]? = some (.cells #[.int .i64 0, .int .i64 0] 59 (0, 0))) := ⟨h2_⟩
    have n3_ : Aside0 (w.heap.size ≤ gb637) := ⟨h3_⟩
    have n4_ : Aside0 (w.heap.size ≤ gb637) := ⟨h4_⟩
    have n5_ : Aside0 (gb630 ≠ gb637) := ⟨h5_⟩
    have n6_ : Aside0 (gb637 ≠ gb630) := ⟨h6_⟩
    have n7_ : Aside0 (gb631 ≠ gb637) := ⟨h7_⟩
    have n8_ : Aside0 (gb637 ≠ gb631) := ⟨h8_⟩
    have n9_ : Aside0 (Below w.heap.size w w16) := ⟨h9_⟩
    clear BK630
    clear BK631
    clear HB
    clear h0_ h1_ h2_ h3_ h4_ h5_ h6_ h7_ h8_ h9_
    have BK630 := n0_
    have BK631 := n1_
    have BK637 := n2_
    have GW637 := n3_
    have GE637 := n4_
    have NB630_637 := n5_
    have NB637_630 := n6_
    have NB631_637 := n7_
    have NB637_631 := n8_
    have HB := n9_
    clear n0_ n1_ n2_ n3_ n4_ n5_ n6_ n7_ n8_ n9_
    have hHeld : w16.cell? ⟨gb631, 0, none⟩ = some (.int .i64 a2_0) ∧ w16.cell? ⟨gb631, 1, none⟩ = some (.int .i64 a2_1) ∧ w16.cell? ⟨gb631, 2, none⟩ = some (.int .i64 a2_2) ∧ w16.cell? ⟨gb631, 3, none⟩ = some (.int .i64 a2_3) := hS_
    refine norm_ (a' := ?_) ?_ ?_
    rotate_left
    ·
     simp only [putAll, Act.put, List.setIfInBounds_toArray, List.set_cons_zero, List.set_cons_succ]
     rfl
    refine one_ (i := 8) (N := some 9) #[true, true, true, true, true, true, true, true, true, true, false, false] rfl rfl (one_of HT_.out (by kernel_rfl)) (by decide) (fun K hK => ?_)
    refine box_step ?hg (N := 9) ?hd (cs := #[.int .i64 0, .int .i64 0]) (t := 59) ?hr ?_; (case hd => rfl); (case hg => rfl); (case hr => first | (go_simp; done) | (go_simp; rfl))
    intro gb636 hg w17 hbox hb
    have BK636 := Aside0.mk (hbox)
    have GW636 := geb hg HB rfl
    have GE636 := geb hg HB rfl
    have NB630_636 := nbl hg BK630 rfl
    have NB636_630 := nbr hg BK630 rfl
    have NB631_636 := nbl hg BK631 rfl
    have NB636_631 := nbr hg BK631 rfl
    have NB637_636 := nbl hg BK637 rfl
    have NB636_637 := nbr hg BK637 rfl
    replace BK630 := bb BK630 hb rfl; replace BK631 := bb BK631 hb rfl; replace BK637 := bb BK637 hb rfl; replace HB := hst HB hb rfl
    clear hb hbox hg
    refine hK.out _ _ ⟨bc BK631 0 rfl, bc BK631 1 rfl, bc BK631 2 rfl, bc BK631 3 rfl⟩ (fun hHeld => ?_)
    clear hK K
    refine norm_ (a' := ?_) ?_ ?_
    rotate_left; · (show Act.put _ (some 9) _ = _; simp only [Act.put, List.setIfInBounds_toArray, List.set_cons_zero, List.set_cons_succ, i64_w, i32_w]; rfl)
    exact norm_ (by first | (simp only [putAll, Act.put, List.setIfInBounds_toArray, List.set_cons_zero, List.set_cons_succ]; done) | (simp only [putAll, Act.put, List.setIfInBounds_toArray, List.set_cons_zero, List.set_cons_succ]; rfl)) (hJ3_7_8_9 (gb636, gb637) _ ⟨hHeld, BK630.out, BK631.out, BK636.out, BK637.out, GW636.out, GE636.out, NB630_636.out, NB636_630.out, NB631_636.out, NB636_631.out, NB637_636.out, NB636_637.out, GW637.out, GE637.out, NB630_637.out, NB637_630.out, NB631_637.out, NB637_631.out, (by repeat (first | (with_reducible first | exact HB.out | apply below_alloc | apply pw_below_drewN | apply below_drew1 | refine below_set ?_ GE630.out | refine below_set ?_ GE631.out | refine below_set ?_ GE637.out | refine below_set ?_ GE636.out) | exact HB.out))⟩)
  ·
   skip
   rintro gb636 w16 ⟨hS_, h0_, h1_, h2_, h3_, h4_, h5_, h6_, h7_, h8_, h9_⟩
   have n0_ : Aside0 (w16.heap[gb630]? = some (.cells #[.int .i64 a1_0, .int .i64 a1_1] 49 (0, 0))) := ⟨h0_⟩
   have n1_ : Aside0 (w16.heap[gb631]? = some (.cells #[.int .i64 a2_0, .int .i64 a2_1, .int .i64 a2_2, .int .i64 a2_3] 87 (0, 0))) := ⟨h1_⟩
   have n2_ : Aside0 (w16.heap[gb636]? = some (.cells #[.int .i64 0, .int .i64 0] 59 (0, 0))) := ⟨h2_⟩
   have n3_ : Aside0 (w.heap.size ≤ gb636) := ⟨h3_⟩
   have n4_ : Aside0 (w.heap.size ≤ gb636) := ⟨h4_⟩
   have n5_ : Aside0 (gb630 ≠ gb636) := ⟨h5_⟩
   have n6_ : Aside0 (gb636 ≠ gb630) := ⟨h6_⟩
   have n7_ : Aside0 (gb631 ≠ gb636) := ⟨h7_⟩
   have n8_ : Aside0 (gb636 ≠ gb631) := ⟨h8_⟩
   have n9_ : Aside0 (Below w.heap.size w w16) := ⟨h9_⟩
   clear BK630
   clear BK631
   clear HB
   clear h0_ h1_ h2_ h3_ h4_ h5_ h6_ h7_ h8_ h9_
   have BK630 := n0_
   have BK631 := n1_
   have BK636 := n2_
   have GW636 := n3_
   have GE636 := n4_
   have NB630_636 := n5_
   have NB636_630 := n6_
   have NB631_636 := n7_
   have NB636_631 := n8_
   have HB := n9_
   clear n0_ n1_ n2_ n3_ n4_ n5_ n6_ n7_ n8_ n9_
   have hHeld : w16.cell? ⟨gb631, 0, none⟩ = some (.int .i64 a2_0) ∧ w16.cell? ⟨gb631, 1, none⟩ = some (.int .i64 a2_1) ∧ w16.cell? ⟨gb631, 2, none⟩ = some (.int .i64 a2_2) ∧ w16.cell? ⟨gb631, 3, none⟩ = some (.int .i64 a2_3) := hS_
   refine norm_ (a' := ?_) ?_ ?_
   rotate_left
   ·
    simp only [putAll, Act.put, List.setIfInBounds_toArray, List.set_cons_zero, List.set_cons_succ]
    rfl
   refine one_ (i := 9) (N := some 10) #[true, true, true, true, true, true, true, true, true, true, false, false] rfl rfl (one_of HT_.out (by kernel_rfl)) (by decide) (fun K hK => ?_)
   refine box_step ?hg (N := 10) ?hd (cs := #[.int .i64 0, .int .i64 0]) (t := 59) ?hr ?_; (case hd => rfl); (case hg => rfl); (case hr => first | (go_simp; done) | (go_simp; rfl))
   intro gb637 hg w17 hbox hb
   have BK637 := Aside0.mk (hbox)
   have GW637 := geb hg HB rfl
   have GE637 := geb hg HB rfl
   have NB630_637 := nbl hg BK630 rfl
   have NB637_630 := nbr hg BK630 rfl
   have NB631_637 := nbl hg BK631 rfl
   have NB637_631 := nbr hg BK631 rfl
   have NB636_637 := nbl hg BK636 rfl
   have NB637_636 := nbr hg BK636 rfl
   replace BK630 := bb BK630 hb rfl; replace BK631 := bb BK631 hb rfl; replace BK636 := bb BK636 hb rfl; replace HB := hst HB hb rfl
   clear hb hbox hg
   refine hK.out _ _ ⟨bc BK631 0 rfl, bc BK631 1 rfl, bc BK631 2 rfl, bc BK631 3 rfl⟩ (fun hHeld => ?_)
   clear hK K
   refine norm_ (a' := ?_) ?_ ?_
   rotate_left; · (show Act.put _ (some 10) _ = _; simp only [Act.put, List.setIfInBounds_toArray, List.set_cons_zero, List.set_cons_succ, i64_w, i32_w]; rfl)
   exact norm_ (by first | (simp only [putAll, Act.put, List.setIfInBounds_toArray, List.set_cons_zero, List.set_cons_succ]; done) | (simp only [putAll, Act.put, List.setIfInBounds_toArray, List.set_cons_zero, List.set_cons_succ]; rfl)) (hJ3_7_8_9 (gb636, gb637) _ ⟨hHeld, BK630.out, BK631.out, BK636.out, BK637.out, GW636.out, GE636.out, NB630_636.out, NB636_630.out, NB631_636.out, NB636_631.out, NB637_636.out, NB636_637.out, GW637.out, GE637.out, NB630_637.out, NB637_630.out, NB631_637.out, NB637_631.out, (by repeat (first | (with_reducible first | exact HB.out | apply below_alloc | apply pw_below_drewN | apply below_drew1 | refine below_set ?_ GE630.out | refine below_set ?_ GE631.out | refine below_set ?_ GE636.out | refine below_set ?_ GE637.out) | exact HB.out))⟩)
 rintro ⟨gb636, gb637⟩ w17 ⟨hS_, h0_, h1_, h2_, h3_, h4_, h5_, h6_, h7_, h8_, h9_, h10_, h11_, h12_, h13_, h14_, h15_, h16_, h17_, h18_⟩
 have n0_ : Aside0 (w17.heap[gb630]? = some (.cells #[.int .i64 a1_0, .int .i64 a1_1] 49 (0, 0))) := ⟨h0_⟩
 have n1_ : Aside0 (w17.heap[gb631]? = some (.cells #[.int .i64 a2_0, .int .i64 a2_1, .int .i64 a2_2, .int .i64 a2_3] 87 (0, 0))) := ⟨h1_⟩
 have n2_ : Aside0 (w17.heap[gb636]? = some (.cells #[.int .i64 0, .int .i64 0] 59 (0, 0))) := ⟨h2_⟩
 have n3_ : Aside0 (w17.heap[gb637]? = some (.cells #[.int .i64 0, .int .i64 0] 59 (0, 0))) := ⟨h3_⟩
 have n4_ : Aside0 (w.heap.size ≤ gb636) := ⟨h4_⟩
 have n5_ : Aside0 (w.heap.size ≤ gb636) := ⟨h5_⟩
 have n6_ : Aside0 (gb630 ≠ gb636) := ⟨h6_⟩
 have n7_ : Aside0 (gb636 ≠ gb630) := ⟨h7_⟩
 have n8_ : Aside0 (gb631 ≠ gb636) := ⟨h8_⟩
 have n9_ : Aside0 (gb636 ≠ gb631) := ⟨h9_⟩
 have n10_ : Aside0 (gb637 ≠ gb636) := ⟨h10_⟩
 have n11_ : Aside0 (gb636 ≠ gb637) := ⟨h11_⟩
 have n12_ : Aside0 (w.heap.size ≤ gb637) := ⟨h12_⟩
 have n13_ : Aside0 (w.heap.size ≤ gb637) := ⟨h13_⟩
 have n14_ : Aside0 (gb630 ≠ gb637) := ⟨h14_⟩
 have n15_ : Aside0 (gb637 ≠ gb630) := ⟨h15_⟩
 have n16_ : Aside0 (gb631 ≠ gb637) := ⟨h16_⟩
 have n17_ : Aside0 (gb637 ≠ gb631) := ⟨h17_⟩
 have n18_ : Aside0 (Below w.heap.size w w17) := ⟨h18_⟩
 clear BK630
 clear BK631
 clear HB
 clear h0_ h1_ h2_ h3_ h4_ h5_ h6_ h7_ h8_ h9_ h10_ h11_ h12_ h13_ h14_ h15_ h16_ h17_ h18_
 have BK630 := n0_
 have BK631 := n1_
 have BK636 := n2_
 have BK637 := n3_
 have GW636 := n4_
 have GE636 := n5_
 have NB630_636 := n6_
 have NB636_630 := n7_
 have NB631_636 := n8_
 have NB636_631 := n9_
 have NB637_636 := n10_
 have NB636_637 := n11_
 have GW637 := n12_
 have GE637 := n13_
 have NB630_637 := n14_
 have NB637_630 := n15_
 have NB631_637 := n16_
 have NB637_631 := n17_
 have HB := n18_
 clear n0_ n1_ n2_ n3_ n4_ n5_ n6_ n7_ n8_ n9_ n10_ n11_ n12_ n13_ n14_ n15_ n16_ n17_ n18_
 have hHeld : w17.cell? ⟨gb631, 0, none⟩ = some (.int .i64 a2_0) ∧ w17.cell? ⟨gb631, 1, none⟩ = some (.int .i64 a2_1) ∧ w17.cell? ⟨gb631, 2, none⟩ = some (.int .i64 a2_2) ∧ w17.cell? ⟨gb631, 3, none⟩ = some (.int .i64 a2_3) := hS_
 refine norm_ (a' := ?_) ?_ ?_
 rotate_left
 ·
  simp only [putAll, Act.put, List.setIfInBounds_toArray, List.set_cons_zero, List.set_cons_succ]
  rfl
 refine one_ (i := 10) (N := none) #[true, true, true, true, true, true, true, true, true, true, true, false] rfl rfl (one_of HT_.out (by kernel_rfl)) (by decide) (fun K hK => ?_)
 have hs18 : w17.cell? ⟨gb636, 0, none⟩ = some (.int .i64 0) := bc BK636 0 rfl
 have hfs18 := blk_frozen BK636.out 0
 have hns18_0 := NB630_636.out
 have hns18_1 := NB631_636.out
 have hns18_3 := NB637_636.out
 have hms18_0 := NB636_630.out
 have hms18_1 := NB636_631.out
 have hms18_3 := NB636_637.out
 have hs19 : w17.cell? ⟨gb636, 1, none⟩ = some (.int .i64 0) := bc BK636 1 rfl
 have hfs19 := blk_frozen BK636.out 1
 have hns19_0 := NB630_636.out
 have hns19_1 := NB631_636.out
 have hns19_3 := NB637_636.out
 have hms19_0 := NB636_630.out
 have hms19_1 := NB636_631.out
 have hms19_3 := NB636_637.out
 refine skip_ (w1 := ?_) (by rfl) rfl ?_ ?_
 rotate_left
 ·
  go_simp
  rfl
 refine hK.out _ _ ⟨((cell_far (p := ⟨gb636, _, none⟩) NB631_636.out _).trans (((cell_far (p := ⟨gb636, _, none⟩) NB631_636.out _).trans (hHeld.1)))), ((cell_far (p := ⟨gb636, _, none⟩) NB631_636.out _).trans (((cell_far (p := ⟨gb636, _, none⟩) NB631_636.out _).trans (hHeld.2.1)))), ((cell_far (p := ⟨gb636, _, none⟩) NB631_636.out _).trans (((cell_far (p := ⟨gb636, _, none⟩) NB631_636.out _).trans (hHeld.2.2.1)))), ((cell_far (p := ⟨gb636, _, none⟩) NB631_636.out _).trans (((cell_far (p := ⟨gb636, _, none⟩) NB631_636.out _).trans (hHeld.2.2.2))))⟩ (fun hHeld => ?_)
 clear hK K
 refine one_ (i := 11) (N := none) #[true, true, true, true, true, true, true, true, true, true, true, true] rfl rfl (one_of HT_.out (by kernel_rfl)) (by decide) (fun K hK => ?_)
 have hs20 : w17.cell? ⟨gb637, 0, none⟩ = some (.int .i64 0) := bc BK637 0 rfl
 have hfs20 := blk_frozen BK637.out 0
 have hns20_0 := NB630_637.out
 have hns20_1 := NB631_637.out
 have hns20_2 := NB636_637.out
 have hms20_0 := NB637_630.out
 have hms20_1 := NB637_631.out
 have hms20_2 := NB637_636.out
 have hs21 : w17.cell? ⟨gb637, 1, none⟩ = some (.int .i64 0) := bc BK637 1 rfl
 have hfs21 := blk_frozen BK637.out 1
 have hns21_0 := NB630_637.out
 have hns21_1 := NB631_637.out
 have hns21_2 := NB636_637.out
 have hms21_0 := NB637_630.out
 have hms21_1 := NB637_631.out
 have hms21_2 := NB637_636.out
 refine skip_ (w1 := ?_) (by rfl) rfl ?_ ?_
 rotate_left
 ·
  go_simp
  rfl
 refine hK.out _ _ ⟨((cell_far (p := ⟨gb637, _, none⟩) NB631_637.out _).trans (((cell_far (p := ⟨gb637, _, none⟩) NB631_637.out _).trans (hHeld.1)))), ((cell_far (p := ⟨gb637, _, none⟩) NB631_637.out _).trans (((cell_far (p := ⟨gb637, _, none⟩) NB631_637.out _).trans (hHeld.2.1)))), ((cell_far (p := ⟨gb637, _, none⟩) NB631_637.out _).trans (((cell_far (p := ⟨gb637, _, none⟩) NB631_637.out _).trans (hHeld.2.2.1)))), ((cell_far (p := ⟨gb637, _, none⟩) NB631_637.out _).trans (((cell_far (p := ⟨gb637, _, none⟩) NB631_637.out _).trans (hHeld.2.2.2))))⟩ (fun hHeld => ?_)
 clear hK K
 refine done_ (done_of HT_.out (by kernel_rfl)) ?_
 go_upto_region 5 with (first | ((with_reducible refine gate_callee (f := 34) rfl ?_); refine goesL_ (some 37) rfl rfl Try.func34 (by kernel_rfl) rfl #[.int .i64 a0, .int .i64 a1_0, .int .i64 a1_1] rfl (mapq rfl) ?_; (with_reducible refine (avermentref07_Arith.calls a0 a1_0 a1_1 t638 t639 _ A6.out).mono ?_); rintro e w' ⟨rfl, ⟨nd, rfl⟩⟩; refine ⟨_, rfl, ?_⟩; have hnb22 := NB636_630.out; have hnc22 := NB630_636.out; have hnb23 := NB636_631.out; have hnc23 := NB631_636.out; have hnb24 := NB636_637.out; have hnc24 := NB637_636.out; have hcz25_0 : w17.cell? ⟨gb636, 0, none⟩ = some (.int .i64 0) := (blk_cell BK636.out 0).trans rfl; have hcz25_1 : w17.cell? ⟨gb636, 1, none⟩ = some (.int .i64 0) := (blk_cell BK636.out 1).trans rfl; have hfz25_0 := blk_frozen BK636.out 0; have hfz25_1 := blk_frozen BK636.out 1; have hnb26 := NB637_630.out; have hnc26 := NB630_637.out; have hnb27 := NB637_631.out; have hnc27 := NB631_637.out; have hcz28_0 : w17.cell? ⟨gb637, 0, none⟩ = some (.int .i64 0) := (blk_cell BK637.out 0).trans rfl; have hcz28_1 : w17.cell? ⟨gb637, 1, none⟩ = some (.int .i64 0) := (blk_cell BK637.out 1).trans rfl; have hfz28_0 := blk_frozen BK637.out 0; have hfz28_1 := blk_frozen BK637.out 1) | ((with_reducible refine gate_callee (f := 36) rfl ?_); refine goesL_ (some 44) rfl rfl Try.func36 (by kernel_rfl) rfl #[.int .i64 a0, .agg #[.int .i64 t632, .int .i64 t633], .agg #[.int .i64 t634, .int .i64 t635]] rfl (mapq rfl) ?_; (with_reducible refine (span_Two.calls k a0 t632 t633 t634 t635 t640 t641 t642 _ A7.out).mono ?_); rintro e w29 ⟨rfl, hb⟩; refine ⟨_, rfl, ?_⟩; replace BK630 := Aside0.mk (blk_below (g := gb630) (o := .cells #[.int .i64 a1_0, .int .i64 a1_1] 49 (0, 0)) (by (with_reducible repeat (first | refine blk_drewN ?_ _ | refine blk_drew ?_ | refine blk_alloc ?_ _)); refine blk_far ?_ NB630_637.out _; (with_reducible repeat (first | refine blk_drewN ?_ _ | refine blk_drew ?_ | refine blk_alloc ?_ _)); refine blk_far ?_ NB630_637.out _; (with_reducible repeat (first | refine blk_drewN ?_ _ | refine blk_drew ?_ | refine blk_alloc ?_ _)); refine blk_far ?_ NB630_636.out _; (with_reducible repeat (first | refine blk_drewN ?_ _ | refine blk_drew ?_ | refine blk_alloc ?_ _)); refine blk_far ?_ NB630_636.out _; (with_reducible repeat (first | refine blk_drewN ?_ _ | refine blk_drew ?_ | refine blk_alloc ?_ _)); exact BK630.out) hb); replace BK631 := Aside0.mk (blk_below (g := gb631) (o := .cells #[.int .i64 a2_0, .int .i64 a2_1, .int .i64 a2_2, .int .i64 a2_3] 87 (0, 0)) (by (with_reducible repeat (first | refine blk_drewN ?_ _ | refine blk_drew ?_ | refine blk_alloc ?_ _)); refine blk_far ?_ NB631_637.out _; (with_reducible repeat (first | refine blk_drewN ?_ _ | refine blk_drew ?_ | refine blk_alloc ?_ _)); refine blk_far ?_ NB631_637.out _; (with_reducible repeat (first | refine blk_drewN ?_ _ | refine blk_drew ?_ | refine blk_alloc ?_ _)); refine blk_far ?_ NB631_636.out _; (with_reducible repeat (first | refine blk_drewN ?_ _ | refine blk_drew ?_ | refine blk_alloc ?_ _)); refine blk_far ?_ NB631_636.out _; (with_reducible repeat (first | refine blk_drewN ?_ _ | refine blk_drew ?_ | refine blk_alloc ?_ _)); exact BK631.out) hb); replace BK636 := Aside0.mk (blk_below (g := gb636) (o := .cells #[.int .i64 t632, .int .i64 t633] 59 (0, 0)) (by (with_reducible repeat (first | refine blk_drewN ?_ _ | refine blk_drew ?_ | refine blk_alloc ?_ _)); refine blk_far ?_ NB636_637.out _; (with_reducible repeat (first | refine blk_drewN ?_ _ | refine blk_drew ?_ | refine blk_alloc ?_ _)); refine blk_far ?_ NB636_637.out _; (with_reducible repeat (first | refine blk_drewN ?_ _ | refine blk_drew ?_ | refine blk_alloc ?_ _)); refine blk_put (cs := #[.int .i64 t632, .int .i64 0]) ?_ 1 _ rfl; (with_reducible repeat (first | refine blk_drewN ?_ _ | refine blk_drew ?_ | refine blk_alloc ?_ _)); refine blk_put (cs := #[.int .i64 0, .int .i64 0]) ?_ 0 _ rfl; (with_reducible repeat (first | refine blk_drewN ?_ _ | refine blk_drew ?_ | refine blk_alloc ?_ _)); exact BK636.out) hb); replace BK637 := Aside0.mk (blk_below (g := gb637) (o := .cells #[.int .i64 t634, .int .i64 t635] 59 (0, 0)) (by (with_reducible repeat (first | refine blk_drewN ?_ _ | refine blk_drew ?_ | refine blk_alloc ?_ _)); refine blk_put (cs := #[.int .i64 t634, .int .i64 0]) ?_ 1 _ rfl; (with_reducible repeat (first | refine blk_drewN ?_ _ | refine blk_drew ?_ | refine blk_alloc ?_ _)); refine blk_put (cs := #[.int .i64 0, .int .i64 0]) ?_ 0 _ rfl; (with_reducible repeat (first | refine blk_drewN ?_ _ | refine blk_drew ?_ | refine blk_alloc ?_ _)); refine blk_far ?_ NB637_636.out _; (with_reducible repeat (first | refine blk_drewN ?_ _ | refine blk_drew ?_ | refine blk_alloc ?_ _)); refine blk_far ?_ NB637_636.out _; (with_reducible repeat (first | refine blk_drewN ?_ _ | refine blk_drew ?_ | refine blk_alloc ?_ _)); exact BK637.out) hb); replace HB := Aside0.mk (below_step (by repeat (first | (with_reducible first | exact HB.out | apply below_alloc | apply pw_below_drewN | apply below_drew1 | refine below_set ?_ GE630.out | refine below_set ?_ GE631.out | refine below_set ?_ GE636.out | refine below_set ?_ GE637.out) | exact HB.out)) hb); (try clear hb)) | ((with_reducible refine gate_dst (N := 13) rfl ?_); refine box_event ?hg (N := 13) ?hd (cs := #[.int .i64 0, .int .i64 0]) (t := 59) ?hr ?_; (case hd => rfl); (case hg => rfl); (case hr => first | (go_simp; done) | (go_simp; rfl)); intro gb643 hg w30 hbox hb; have BK643 := Aside0.mk (hbox); have GW643 := geb hg HB rfl; have GE643 := geb hg HB rfl; have NB630_643 := nbl hg BK630 rfl; have NB643_630 := nbr hg BK630 rfl; have NB631_643 := nbl hg BK631 rfl; have NB643_631 := nbr hg BK631 rfl; have NB636_643 := nbl hg BK636 rfl; have NB643_636 := nbr hg BK636 rfl; have NB637_643 := nbl hg BK637 rfl; have NB643_637 := nbr hg BK637 rfl; replace BK630 := bb BK630 hb rfl; replace BK631 := bb BK631 hb rfl; replace BK636 := bb BK636 hb rfl; replace BK637 := bb BK637 hb rfl; replace HB := hst HB hb rfl; clear hb hbox hg; have hnb31 := NB643_630.out; have hnc31 := NB630_643.out; have hnb32 := NB643_631.out; have hnc32 := NB631_643.out; have hnb33 := NB643_636.out; have hnc33 := NB636_643.out; have hnb34 := NB643_637.out; have hnc34 := NB637_643.out; have hcz35_0 : w30.cell? ⟨gb643, 0, none⟩ = some (.int .i64 0) := (blk_cell BK643.out 0).trans rfl; have hcz35_1 : w30.cell? ⟨gb643, 1, none⟩ = some (.int .i64 0) := (blk_cell BK643.out 1).trans rfl; have hfz35_0 := blk_frozen BK643.out 0; have hfz35_1 := blk_frozen BK643.out 1))
 (try simp only [Act.put, List.setIfInBounds_toArray, List.set_cons_zero, List.set_cons_succ])
 go_cut [61] (fun v61 wc => ∃ (kq : Nat) (x61_7 : Bool), v61 = .bool x61_7 ∧ Aside0 (avermentlaw10_SpanSound.j0 kq a1_0 x61_7 t632 t633 = some r) ∧ Aside0 (kq ≤ k) ∧ Aside0 (wc.heap[gb630]? = some (.cells #[.int .i64 a1_0, .int .i64 a1_1] 49 (0, 0))) ∧ Aside0 (wc.heap[gb631]? = some (.cells #[.int .i64 a2_0, .int .i64 a2_1, .int .i64 a2_2, .int .i64 a2_3] 87 (0, 0))) ∧ Aside0 (wc.heap[gb636]? = some (.cells #[.int .i64 t632, .int .i64 t633] 59 (0, 0))) ∧ Aside0 (wc.heap[gb637]? = some (.cells #[.int .i64 t634, .int .i64 t635] 59 (0, 0))) ∧ Aside0 (wc.heap[gb643]? = some (.cells #[.int .i64 t640, .int .i64 t641] 59 (0, 0))) ∧ Aside0 (Below w.heap.size w wc))
 case first =>
  have H := HC8.out
  clear HC8
  replace H := Option.bind_eq_some_iff.mp H
  obtain ⟨t644, A360, H⟩ := H
  (try dsimp only at H)
  have A36 := Aside0.mk A360
  clear A360
  by_cases c37 : t644 = true
  ·
   subst c37
   rw [if_pos rfl] at H
   by_cases c38 : t639 = true
   ·
    subst c38
    rw [if_pos rfl] at H
    by_cases c39 : t642 = true
    ·
     subst c39
     rw [if_pos rfl] at H
     replace H := Option.bind_eq_some_iff.mp H
     obtain ⟨t645, A400, H⟩ := H
     (try dsimp only at H)
     have A40 := Aside0.mk A400
     clear A400
     have H' := Aside0.mk H
     clear H
     go_wp2_with (first | ((with_reducible refine gate_callee (f := 38) rfl ?_); refine goesL_ (some 47) rfl rfl Try.func38 (by kernel_rfl) rfl #[] rfl (mapq rfl) ?_; (with_reducible refine (avermentlaw10_told.calls k  true _ A36.out).mono ?_); rintro e w41 ⟨rfl, hb⟩; refine ⟨_, rfl, ?_⟩; replace BK630 := Aside0.mk (blk_below (g := gb630) (o := .cells #[.int .i64 a1_0, .int .i64 a1_1] 49 (0, 0)) (by (with_reducible repeat (first | refine blk_drewN ?_ _ | refine blk_drew ?_ | refine blk_alloc ?_ _)); refine blk_far ?_ NB630_643.out _; (with_reducible repeat (first | refine blk_drewN ?_ _ | refine blk_drew ?_ | refine blk_alloc ?_ _)); refine blk_far ?_ NB630_643.out _; (with_reducible repeat (first | refine blk_drewN ?_ _ | refine blk_drew ?_ | refine blk_alloc ?_ _)); exact BK630.out) hb); replace BK631 := Aside0.mk (blk_below (g := gb631) (o := .cells #[.int .i64 a2_0, .int .i64 a2_1, .int .i64 a2_2, .int .i64 a2_3] 87 (0, 0)) (by (with_reducible repeat (first | refine blk_drewN ?_ _ | refine blk_drew ?_ | refine blk_alloc ?_ _)); refine blk_far ?_ NB631_643.out _; (with_reducible repeat (first | refine blk_drewN ?_ _ | refine blk_drew ?_ | refine blk_alloc ?_ _)); refine blk_far ?_ NB631_643.out _; (with_reducible repeat (first | refine blk_drewN ?_ _ | refine blk_drew ?_ | refine blk_alloc ?_ _)); exact BK631.out) hb); replace BK636 := Aside0.mk (blk_below (g := gb636) (o := .cells #[.int .i64 t632, .int .i64 t633] 59 (0, 0)) (by (with_reducible repeat (first | refine blk_drewN ?_ _ | refine blk_drew ?_ | refine blk_alloc ?_ _)); refine blk_far ?_ NB636_643.out _; (with_reducible repeat (first | refine blk_drewN ?_ _ | refine blk_drew ?_ | refine blk_alloc ?_ _)); refine blk_far ?_ NB636_643.out _; (with_reducible repeat (first | refine blk_drewN ?_ _ | refine blk_drew ?_ | refine blk_alloc ?_ _)); exact BK636.out) hb); replace BK637 := Aside0.mk (blk_below (g := gb637) (o := .cells #[.int .i64 t634, .int .i64 t635] 59 (0, 0)) (by (with_reducible repeat (first | refine blk_drewN ?_ _ | refine blk_drew ?_ | refine blk_alloc ?_ _)); refine blk_far ?_ NB637_643.out _; (with_reducible repeat (first | refine blk_drewN ?_ _ | refine blk_drew ?_ | refine blk_alloc ?_ _)); refine blk_far ?_ NB637_643.out _; (with_reducible repeat (first | refine blk_drewN ?_ _ | refine blk_drew ?_ | refine blk_alloc ?_ _)); exact BK637.out) hb); replace BK643 := Aside0.mk (blk_below (g := gb643) (o := .cells #[.int .i64 t640, .int .i64 t641] 59 (0, 0)) (by (with_reducible repeat (first | refine blk_drewN ?_ _ | refine blk_drew ?_ | refine blk_alloc ?_ _)); refine blk_put (cs := #[.int .i64 t640, .int .i64 0]) ?_ 1 _ rfl; (with_reducible repeat (first | refine blk_drewN ?_ _ | refine blk_drew ?_ | refine blk_alloc ?_ _)); refine blk_put (cs := #[.int .i64 0, .int .i64 0]) ?_ 0 _ rfl; (with_reducible repeat (first | refine blk_drewN ?_ _ | refine blk_drew ?_ | refine blk_alloc ?_ _)); exact BK643.out) hb); replace HB := Aside0.mk (below_step (by repeat (first | (with_reducible first | exact HB.out | apply below_alloc | apply pw_below_drewN | apply below_drew1 | refine below_set ?_ GE630.out | refine below_set ?_ GE631.out | refine below_set ?_ GE636.out | refine below_set ?_ GE637.out | refine below_set ?_ GE643.out) | exact HB.out)) hb); (try clear hb); have hnb42 := NB643_630.out; have hnc42 := NB630_643.out; have hnb43 := NB643_631.out; have hnc43 := NB631_643.out; have hnb44 := NB643_636.out; have hnc44 := NB636_643.out; have hnb45 := NB643_637.out; have hnc45 := NB637_643.out; have hcz46_0 : w41.cell? ⟨gb643, 0, none⟩ = some (.int .i64 t640) := (blk_cell BK643.out 0).trans rfl; have hcz46_1 : w41.cell? ⟨gb643, 1, none⟩ = some (.int .i64 t641) := (blk_cell BK643.out 1).trans rfl; have hfz46_0 := blk_frozen BK643.out 0; have hfz46_1 := blk_frozen BK643.out 1) | (go_at_call 47; (with_reducible refine (span_Has.calls t640 t641 t638 t645 _ A40.out).mono ?_); rintro e w47 ⟨rfl, hb⟩; replace BK630 := bb BK630 hb rfl; replace BK631 := bb BK631 hb rfl; replace BK636 := bb BK636 hb rfl; replace BK637 := bb BK637 hb rfl; replace BK643 := bb BK643 hb rfl; replace HB := hst HB hb rfl; (try clear hb)))
     go_meet
     case rel => exact ⟨_, (!t645), (by first | rfl | (simp; done) | (simp [*]; done)), H', ⟨by first | omega | exact Nat.le_refl _⟩, ⟨by (with_reducible repeat (first | refine blk_drewN ?_ _ | refine blk_drew ?_ | refine blk_alloc ?_ _)); exact BK630.out⟩, ⟨by (with_reducible repeat (first | refine blk_drewN ?_ _ | refine blk_drew ?_ | refine blk_alloc ?_ _)); exact BK631.out⟩, ⟨by (with_reducible repeat (first | refine blk_drewN ?_ _ | refine blk_drew ?_ | refine blk_alloc ?_ _)); exact BK636.out⟩, ⟨by (with_reducible repeat (first | refine blk_drewN ?_ _ | refine blk_drew ?_ | refine blk_alloc ?_ _)); exact BK637.out⟩, ⟨by (with_reducible repeat (first | refine blk_drewN ?_ _ | refine blk_drew ?_ | refine blk_alloc ?_ _)); exact BK643.out⟩, ⟨by repeat (first | (with_reducible first | exact HB.out | apply below_alloc | apply pw_below_drewN | apply below_drew1 | refine below_set ?_ GE630.out | refine below_set ?_ GE631.out | refine below_set ?_ GE636.out | refine below_set ?_ GE637.out | refine below_set ?_ GE643.out) | exact HB.out)⟩⟩
    ·
     replace c39 := Bool.eq_false_iff.mpr c39
     subst c39
     rw [if_neg (show ¬ (false = true) by decide)] at H
     have H' := Aside0.mk H
     clear H
     go_wp2_with (first | ((with_reducible refine gate_callee (f := 38) rfl ?_); refine goesL_ (some 47) rfl rfl Try.func38 (by kernel_rfl) rfl #[] rfl (mapq rfl) ?_; (with_reducible refine (avermentlaw10_told.calls k  true _ A36.out).mono ?_); rintro e w48 ⟨rfl, hb⟩; refine ⟨_, rfl, ?_⟩; replace BK630 := Aside0.mk (blk_below (g := gb630) (o := .cells #[.int .i64 a1_0, .int .i64 a1_1] 49 (0, 0)) (by (with_reducible repeat (first | refine blk_drewN ?_ _ | refine blk_drew ?_ | refine blk_alloc ?_ _)); refine blk_far ?_ NB630_643.out _; (with_reducible repeat (first | refine blk_drewN ?_ _ | refine blk_drew ?_ | refine blk_alloc ?_ _)); refine blk_far ?_ NB630_643.out _; (with_reducible repeat (first | refine blk_drewN ?_ _ | refine blk_drew ?_ | refine blk_alloc ?_ _)); exact BK630.out) hb); replace BK631 := Aside0.mk (blk_below (g := gb631) (o := .cells #[.int .i64 a2_0, .int .i64 a2_1, .int .i64 a2_2, .int .i64 a2_3] 87 (0, 0)) (by (with_reducible repeat (first | refine blk_drewN ?_ _ | refine blk_drew ?_ | refine blk_alloc ?_ _)); refine blk_far ?_ NB631_643.out _; (with_reducible repeat (first | refine blk_drewN ?_ _ | refine blk_drew ?_ | refine blk_alloc ?_ _)); refine blk_far ?_ NB631_643.out _; (with_reducible repeat (first | refine blk_drewN ?_ _ | refine blk_drew ?_ | refine blk_alloc ?_ _)); exact BK631.out) hb); replace BK636 := Aside0.mk (blk_below (g := gb636) (o := .cells #[.int .i64 t632, .int .i64 t633] 59 (0, 0)) (by (with_reducible repeat (first | refine blk_drewN ?_ _ | refine blk_drew ?_ | refine blk_alloc ?_ _)); refine blk_far ?_ NB636_643.out _; (with_reducible repeat (first | refine blk_drewN ?_ _ | refine blk_drew ?_ | refine blk_alloc ?_ _)); refine blk_far ?_ NB636_643.out _; (with_reducible repeat (first | refine blk_drewN ?_ _ | refine blk_drew ?_ | refine blk_alloc ?_ _)); exact BK636.out) hb); replace BK637 := Aside0.mk (blk_below (g := gb637) (o := .cells #[.int .i64 t634, .int .i64 t635] 59 (0, 0)) (by (with_reducible repeat (first | refine blk_drewN ?_ _ | refine blk_drew ?_ | refine blk_alloc ?_ _)); refine blk_far ?_ NB637_643.out _; (with_reducible repeat (first | refine blk_drewN ?_ _ | refine blk_drew ?_ | refine blk_alloc ?_ _)); refine blk_far ?_ NB637_643.out _; (with_reducible repeat (first | refine blk_drewN ?_ _ | refine blk_drew ?_ | refine blk_alloc ?_ _)); exact BK637.out) hb); replace BK643 := Aside0.mk (blk_below (g := gb643) (o := .cells #[.int .i64 t640, .int .i64 t641] 59 (0, 0)) (by (with_reducible repeat (first | refine blk_drewN ?_ _ | refine blk_drew ?_ | refine blk_alloc ?_ _)); refine blk_put (cs := #[.int .i64 t640, .int .i64 0]) ?_ 1 _ rfl; (with_reducible repeat (first | refine blk_drewN ?_ _ | refine blk_drew ?_ | refine blk_alloc ?_ _)); refine blk_put (cs := #[.int .i64 0, .int .i64 0]) ?_ 0 _ rfl; (with_reducible repeat (first | refine blk_drewN ?_ _ | refine blk_drew ?_ | refine blk_alloc ?_ _)); exact BK643.out) hb); replace HB := Aside0.mk (below_step (by repeat (first | (with_reducible first | exact HB.out | apply below_alloc | apply pw_below_drewN | apply below_drew1 | refine below_set ?_ GE630.out | refine below_set ?_ GE631.out | refine below_set ?_ GE636.out | refine below_set ?_ GE637.out | refine below_set ?_ GE643.out) | exact HB.out)) hb); (try clear hb)))
     go_meet
     case rel => exact ⟨_, (true), (by first | rfl | (simp; done) | (simp [*]; done)), H', ⟨by first | omega | exact Nat.le_refl _⟩, ⟨by (with_reducible repeat (first | refine blk_drewN ?_ _ | refine blk_drew ?_ | refine blk_alloc ?_ _)); exact BK630.out⟩, ⟨by (with_reducible repeat (first | refine blk_drewN ?_ _ | refine blk_drew ?_ | refine blk_alloc ?_ _)); exact BK631.out⟩, ⟨by (with_reducible repeat (first | refine blk_drewN ?_ _ | refine blk_drew ?_ | refine blk_alloc ?_ _)); exact BK636.out⟩, ⟨by (with_reducible repeat (first | refine blk_drewN ?_ _ | refine blk_drew ?_ | refine blk_alloc ?_ _)); exact BK637.out⟩, ⟨by (with_reducible repeat (first | refine blk_drewN ?_ _ | refine blk_drew ?_ | refine blk_alloc ?_ _)); exact BK643.out⟩, ⟨by repeat (first | (with_reducible first | exact HB.out | apply below_alloc | apply pw_below_drewN | apply below_drew1 | refine below_set ?_ GE630.out | refine below_set ?_ GE631.out | refine below_set ?_ GE636.out | refine below_set ?_ GE637.out | refine below_set ?_ GE643.out) | exact HB.out)⟩⟩
   ·
    replace c38 := Bool.eq_false_iff.mpr c38
    subst c38
    rw [if_neg (show ¬ (false = true) by decide)] at H
    have H' := Aside0.mk H
    clear H
    go_wp2_with (first | ((with_reducible refine gate_callee (f := 38) rfl ?_); refine goesL_ (some 47) rfl rfl Try.func38 (by kernel_rfl) rfl #[] rfl (mapq rfl) ?_; (with_reducible refine (avermentlaw10_told.calls k  true _ A36.out).mono ?_); rintro e w49 ⟨rfl, hb⟩; refine ⟨_, rfl, ?_⟩; replace BK630 := Aside0.mk (blk_below (g := gb630) (o := .cells #[.int .i64 a1_0, .int .i64 a1_1] 49 (0, 0)) (by (with_reducible repeat (first | refine blk_drewN ?_ _ | refine blk_drew ?_ | refine blk_alloc ?_ _)); refine blk_far ?_ NB630_643.out _; (with_reducible repeat (first | refine blk_drewN ?_ _ | refine blk_drew ?_ | refine blk_alloc ?_ _)); refine blk_far ?_ NB630_643.out _; (with_reducible repeat (first | refine blk_drewN ?_ _ | refine blk_drew ?_ | refine blk_alloc ?_ _)); exact BK630.out) hb); replace BK631 := Aside0.mk (blk_below (g := gb631) (o := .cells #[.int .i64 a2_0, .int .i64 a2_1, .int .i64 a2_2, .int .i64 a2_3] 87 (0, 0)) (by (with_reducible repeat (first | refine blk_drewN ?_ _ | refine blk_drew ?_ | refine blk_alloc ?_ _)); refine blk_far ?_ NB631_643.out _; (with_reducible repeat (first | refine blk_drewN ?_ _ | refine blk_drew ?_ | refine blk_alloc ?_ _)); refine blk_far ?_ NB631_643.out _; (with_reducible repeat (first | refine blk_drewN ?_ _ | refine blk_drew ?_ | refine blk_alloc ?_ _)); exact BK631.out) hb); replace BK636 := Aside0.mk (blk_below (g := gb636) (o := .cells #[.int .i64 t632, .int .i64 t633] 59 (0, 0)) (by (with_reducible repeat (first | refine blk_drewN ?_ _ | refine blk_drew ?_ | refine blk_alloc ?_ _)); refine blk_far ?_ NB636_643.out _; (with_reducible repeat (first | refine blk_drewN ?_ _ | refine blk_drew ?_ | refine blk_alloc ?_ _)); refine blk_far ?_ NB636_643.out _; (with_reducible repeat (first | refine blk_drewN ?_ _ | refine blk_drew ?_ | refine blk_alloc ?_ _)); exact BK636.out) hb); replace BK637 := Aside0.mk (blk_below (g := gb637) (o := .cells #[.int .i64 t634, .int .i64 t635] 59 (0, 0)) (by (with_reducible repeat (first | refine blk_drewN ?_ _ | refine blk_drew ?_ | refine blk_alloc ?_ _)); refine blk_far ?_ NB637_643.out _; (with_reducible repeat (first | refine blk_drewN ?_ _ | refine blk_drew ?_ | refine blk_alloc ?_ _)); refine blk_far ?_ NB637_643.out _; (with_reducible repeat (first | refine blk_drewN ?_ _ | refine blk_drew ?_ | refine blk_alloc ?_ _)); exact BK637.out) hb); replace BK643 := Aside0.mk (blk_below (g := gb643) (o := .cells #[.int .i64 t640, .int .i64 t641] 59 (0, 0)) (by (with_reducible repeat (first | refine blk_drewN ?_ _ | refine blk_drew ?_ | refine blk_alloc ?_ _)); refine blk_put (cs := #[.int .i64 t640, .int .i64 0]) ?_ 1 _ rfl; (with_reducible repeat (first | refine blk_drewN ?_ _ | refine blk_drew ?_ | refine blk_alloc ?_ _)); refine blk_put (cs := #[.int .i64 0, .int .i64 0]) ?_ 0 _ rfl; (with_reducible repeat (first | refine blk_drewN ?_ _ | refine blk_drew ?_ | refine blk_alloc ?_ _)); exact BK643.out) hb); replace HB := Aside0.mk (below_step (by repeat (first | (with_reducible first | exact HB.out | apply below_alloc | apply pw_below_drewN | apply below_drew1 | refine below_set ?_ GE630.out | refine below_set ?_ GE631.out | refine below_set ?_ GE636.out | refine below_set ?_ GE637.out | refine below_set ?_ GE643.out) | exact HB.out)) hb); (try clear hb)))
    go_meet
    case rel => exact ⟨_, (false), (by first | rfl | (simp; done) | (simp [*]; done)), H', ⟨by first | omega | exact Nat.le_refl _⟩, ⟨by (with_reducible repeat (first | refine blk_drewN ?_ _ | refine blk_drew ?_ | refine blk_alloc ?_ _)); exact BK630.out⟩, ⟨by (with_reducible repeat (first | refine blk_drewN ?_ _ | refine blk_drew ?_ | refine blk_alloc ?_ _)); exact BK631.out⟩, ⟨by (with_reducible repeat (first | refine blk_drewN ?_ _ | refine blk_drew ?_ | refine blk_alloc ?_ _)); exact BK636.out⟩, ⟨by (with_reducible repeat (first | refine blk_drewN ?_ _ | refine blk_drew ?_ | refine blk_alloc ?_ _)); exact BK637.out⟩, ⟨by (with_reducible repeat (first | refine blk_drewN ?_ _ | refine blk_drew ?_ | refine blk_alloc ?_ _)); exact BK643.out⟩, ⟨by repeat (first | (with_reducible first | exact HB.out | apply below_alloc | apply pw_below_drewN | apply below_drew1 | refine below_set ?_ GE630.out | refine below_set ?_ GE631.out | refine below_set ?_ GE636.out | refine below_set ?_ GE637.out | refine below_set ?_ GE643.out) | exact HB.out)⟩⟩
  ·
   replace c37 := Bool.eq_false_iff.mpr c37
   subst c37
   rw [if_neg (show ¬ (false = true) by decide)] at H
   have H' := Aside0.mk H
   clear H
   go_wp2_with (first | ((with_reducible refine gate_callee (f := 38) rfl ?_); refine goesL_ (some 47) rfl rfl Try.func38 (by kernel_rfl) rfl #[] rfl (mapq rfl) ?_; (with_reducible refine (avermentlaw10_told.calls k  false _ A36.out).mono ?_); rintro e w50 ⟨rfl, hb⟩; refine ⟨_, rfl, ?_⟩; replace BK630 := Aside0.mk (blk_below (g := gb630) (o := .cells #[.int .i64 a1_0, .int .i64 a1_1] 49 (0, 0)) (by (with_reducible repeat (first | refine blk_drewN ?_ _ | refine blk_drew ?_ | refine blk_alloc ?_ _)); refine blk_far ?_ NB630_643.out _; (with_reducible repeat (first | refine blk_drewN ?_ _ | refine blk_drew ?_ | refine blk_alloc ?_ _)); refine blk_far ?_ NB630_643.out _; (with_reducible repeat (first | refine blk_drewN ?_ _ | refine blk_drew ?_ | refine blk_alloc ?_ _)); exact BK630.out) hb); replace BK631 := Aside0.mk (blk_below (g := gb631) (o := .cells #[.int .i64 a2_0, .int .i64 a2_1, .int .i64 a2_2, .int .i64 a2_3] 87 (0, 0)) (by (with_reducible repeat (first | refine blk_drewN ?_ _ | refine blk_drew ?_ | refine blk_alloc ?_ _)); refine blk_far ?_ NB631_643.out _; (with_reducible repeat (first | refine blk_drewN ?_ _ | refine blk_drew ?_ | refine blk_alloc ?_ _)); refine blk_far ?_ NB631_643.out _; (with_reducible repeat (first | refine blk_drewN ?_ _ | refine blk_drew ?_ | refine blk_alloc ?_ _)); exact BK631.out) hb); replace BK636 := Aside0.mk (blk_below (g := gb636) (o := .cells #[.int .i64 t632, .int .i64 t633] 59 (0, 0)) (by (with_reducible repeat (first | refine blk_drewN ?_ _ | refine blk_drew ?_ | refine blk_alloc ?_ _)); refine blk_far ?_ NB636_643.out _; (with_reducible repeat (first | refine blk_drewN ?_ _ | refine blk_drew ?_ | refine blk_alloc ?_ _)); refine blk_far ?_ NB636_643.out _; (with_reducible repeat (first | refine blk_drewN ?_ _ | refine blk_drew ?_ | refine blk_alloc ?_ _)); exact BK636.out) hb); replace BK637 := Aside0.mk (blk_below (g := gb637) (o := .cells #[.int .i64 t634, .int .i64 t635] 59 (0, 0)) (by (with_reducible repeat (first | refine blk_drewN ?_ _ | refine blk_drew ?_ | refine blk_alloc ?_ _)); refine blk_far ?_ NB637_643.out _; (with_reducible repeat (first | refine blk_drewN ?_ _ | refine blk_drew ?_ | refine blk_alloc ?_ _)); refine blk_far ?_ NB637_643.out _; (with_reducible repeat (first | refine blk_drewN ?_ _ | refine blk_drew ?_ | refine blk_alloc ?_ _)); exact BK637.out) hb); replace BK643 := Aside0.mk (blk_below (g := gb643) (o := .cells #[.int .i64 t640, .int .i64 t641] 59 (0, 0)) (by (with_reducible repeat (first | refine blk_drewN ?_ _ | refine blk_drew ?_ | refine blk_alloc ?_ _)); refine blk_put (cs := #[.int .i64 t640, .int .i64 0]) ?_ 1 _ rfl; (with_reducible repeat (first | refine blk_drewN ?_ _ | refine blk_drew ?_ | refine blk_alloc ?_ _)); refine blk_put (cs := #[.int .i64 0, .int .i64 0]) ?_ 0 _ rfl; (with_reducible repeat (first | refine blk_drewN ?_ _ | refine blk_drew ?_ | refine blk_alloc ?_ _)); exact BK643.out) hb); replace HB := Aside0.mk (below_step (by repeat (first | (with_reducible first | exact HB.out | apply below_alloc | apply pw_below_drewN | apply below_drew1 | refine below_set ?_ GE630.out | refine below_set ?_ GE631.out | refine below_set ?_ GE636.out | refine below_set ?_ GE637.out | refine below_set ?_ GE643.out) | exact HB.out)) hb); (try clear hb)))
   go_meet
   case rel => exact ⟨_, (true), (by first | rfl | (simp; done) | (simp [*]; done)), H', ⟨by first | omega | exact Nat.le_refl _⟩, ⟨by (with_reducible repeat (first | refine blk_drewN ?_ _ | refine blk_drew ?_ | refine blk_alloc ?_ _)); exact BK630.out⟩, ⟨by (with_reducible repeat (first | refine blk_drewN ?_ _ | refine blk_drew ?_ | refine blk_alloc ?_ _)); exact BK631.out⟩, ⟨by (with_reducible repeat (first | refine blk_drewN ?_ _ | refine blk_drew ?_ | refine blk_alloc ?_ _)); exact BK636.out⟩, ⟨by (with_reducible repeat (first | refine blk_drewN ?_ _ | refine blk_drew ?_ | refine blk_alloc ?_ _)); exact BK637.out⟩, ⟨by (with_reducible repeat (first | refine blk_drewN ?_ _ | refine blk_drew ?_ | refine blk_alloc ?_ _)); exact BK643.out⟩, ⟨by repeat (first | (with_reducible first | exact HB.out | apply below_alloc | apply pw_below_drewN | apply below_drew1 | refine below_set ?_ GE630.out | refine below_set ?_ GE631.out | refine below_set ?_ GE636.out | refine below_set ?_ GE637.out | refine below_set ?_ GE643.out) | exact HB.out)⟩⟩
 case rest =>
  clear HC8
  try clear c2
  try clear p2
  try clear c3
  try clear c4
  try clear c5
  try clear c22
  try clear c23
  try clear c24
  try clear c26
  try clear c27
  try clear c31
  try clear c32
  try clear c33
  try clear c34
  try clear c36
  try clear c37
  try clear c38
  try clear c39
  try clear c42
  try clear c43
  try clear c44
  try clear c45
  try clear hcz25_0
  try clear hcz25_1
  try clear hcz28_0
  try clear hcz28_1
  try clear hcz35_0
  try clear hcz35_1
  try clear hcz46_0
  try clear hcz46_1
  try clear hfz25_0
  try clear hfz25_1
  try clear hfz28_0
  try clear hfz28_1
  try clear hfz35_0
  try clear hfz35_1
  try clear hfz46_0
  try clear hfz46_1
  obtain ⟨kq, x61_7, rfl, HA, HJ7, BK630, BK631, BK636, BK637, BK643, HB⟩ := hcut
  cases kq with
  | zero => exact absurd HA.out (by simp [avermentlaw10_SpanSound.j0])
  | succ kj7 =>
   have H := HA.out
   clear HA
   simp only [avermentlaw10_SpanSound.j0] at H
   by_cases c51 : x61_7 = true
   ·
    subst c51
    rw [if_pos rfl] at H
    exact absurd ((Option.some.inj H).trans hr_.out) (by decide)
   ·
    replace c51 := Bool.eq_false_iff.mpr c51
    subst c51
    rw [if_neg (show ¬ (false = true) by decide)] at H
    replace H := Option.bind_eq_some_iff.mp H
    obtain ⟨⟨t646, t647, t648⟩, A520, H⟩ := H
    (try dsimp only at H)
    have A52 := Aside0.mk A520
    clear A520
    replace H := Option.bind_eq_some_iff.mp H
    obtain ⟨⟨t650, t651, t652⟩, A530, H⟩ := H
    (try dsimp only at H)
    have A53 := Aside0.mk A530
    clear A530
    replace H := Option.bind_eq_some_iff.mp H
    obtain ⟨⟨t654, t655, t656⟩, A540, H⟩ := H
    (try dsimp only at H)
    have A54 := Aside0.mk A540
    clear A540
    by_cases c55 : t648 = true
    ·
     subst c55
     rw [if_pos rfl] at H
     replace H := Option.bind_eq_some_iff.mp H
     obtain ⟨t658, A560, H⟩ := H
     (try dsimp only at H)
     have A56 := Aside0.mk A560
     clear A560
     by_cases c57 : t658 = true
     ·
      subst c57
      rw [if_pos rfl] at H
      by_cases c58 : t652 = true
      ·
       subst c58
       rw [if_pos rfl] at H
       replace H := Option.bind_eq_some_iff.mp H
       obtain ⟨t659, A590, H⟩ := H
       (try dsimp only at H)
       have A59 := Aside0.mk A590
       clear A590
       by_cases c60 : t659 = true
       ·
        subst c60
        rw [if_pos rfl] at H
        by_cases c61 : t656 = true
        ·
         subst c61
         rw [if_pos rfl] at H
         replace H := Option.bind_eq_some_iff.mp H
         obtain ⟨t660, A620, H⟩ := H
         (try dsimp only at H)
         have A62 := Aside0.mk A620
         clear A620
         obtain rfl := Option.some.inj H
         have hnb63 := NB636_630.out
         have hnc63 := NB630_636.out
         have hnb64 := NB636_631.out
         have hnc64 := NB631_636.out
         have hnb65 := NB636_637.out
         have hnc65 := NB637_636.out
         have hnb66 := NB636_643.out
         have hnc66 := NB643_636.out
         have hcz67_0 : wc.cell? ⟨gb636, 0, none⟩ = some (.int .i64 t632) := bc BK636 0 rfl
         have hcz67_1 : wc.cell? ⟨gb636, 1, none⟩ = some (.int .i64 t633) := bc BK636 1 rfl
         have hfz67_0 := blk_frozen BK636.out 0
         have hfz67_1 := blk_frozen BK636.out 1
         go_wp2_with (first | ((with_reducible refine gate_callee (f := 54) rfl ?_); refine goesL_ (some 64) rfl rfl Try.func54 (by kernel_rfl) rfl #[.int .i64 3, .agg #[.int .i64 t632, .int .i64 t633]] rfl (mapq rfl) ?_; (with_reducible refine (span_One.calls kj7 3 t632 t633 t646 t647 true _ A52.out).mono ?_); rintro e w68 ⟨rfl, hb⟩; refine ⟨_, rfl, ?_⟩; replace BK630 := bb BK630 hb rfl; replace BK631 := bb BK631 hb rfl; replace BK636 := bb BK636 hb rfl; replace BK637 := bb BK637 hb rfl; replace BK643 := bb BK643 hb rfl; replace HB := hst HB hb rfl; (try clear hb)) | ((with_reducible refine gate_dst (N := 15) rfl ?_); refine box_event ?hg (N := 15) ?hd (cs := #[.int .i64 0, .int .i64 0]) (t := 59) ?hr ?_; (case hd => rfl); (case hg => rfl); (case hr => first | (go_simp; done) | (go_simp; rfl)); intro gb649 hg w69 hbox hb; have BK649 := Aside0.mk (hbox); have GW649 := geb hg HB rfl; have GE649 := geb hg HB rfl; have NB630_649 := nbl hg BK630 rfl; have NB649_630 := nbr hg BK630 rfl; have NB631_649 := nbl hg BK631 rfl; have NB649_631 := nbr hg BK631 rfl; have NB636_649 := nbl hg BK636 rfl; have NB649_636 := nbr hg BK636 rfl; have NB637_649 := nbl hg BK637 rfl; have NB649_637 := nbr hg BK637 rfl; have NB643_649 := nbl hg BK643 rfl; have NB649_643 := nbr hg BK643 rfl; replace BK630 := bb BK630 hb rfl; replace BK631 := bb BK631 hb rfl; replace BK636 := bb BK636 hb rfl; replace BK637 := bb BK637 hb rfl; replace BK643 := bb BK643 hb rfl; replace HB := hst HB hb rfl; clear hb hbox hg; have hnb70 := NB649_630.out; have hnc70 := NB630_649.out; have hnb71 := NB649_631.out; have hnc71 := NB631_649.out; have hnb72 := NB649_636.out; have hnc72 := NB636_649.out; have hnb73 := NB649_637.out; have hnc73 := NB637_649.out; have hnb74 := NB649_643.out; have hnc74 := NB643_649.out; have hcz75_0 : w69.cell? ⟨gb649, 0, none⟩ = some (.int .i64 0) := (blk_cell BK649.out 0).trans rfl; have hcz75_1 : w69.cell? ⟨gb649, 1, none⟩ = some (.int .i64 0) := (blk_cell BK649.out 1).trans rfl; have hfz75_0 := blk_frozen BK649.out 0; have hfz75_1 := blk_frozen BK649.out 1; have hcz76_0 : w69.cell? ⟨gb636, 0, none⟩ = some (.int .i64 t632) := (blk_cell BK636.out 0).trans rfl; have hcz76_1 : w69.cell? ⟨gb636, 1, none⟩ = some (.int .i64 t633) := (blk_cell BK636.out 1).trans rfl; have hfz76_0 := blk_frozen BK636.out 0; have hfz76_1 := blk_frozen BK636.out 1) | ((with_reducible refine gate_callee (f := 54) rfl ?_); refine goesL_ (some 69) rfl rfl Try.func54 (by kernel_rfl) rfl #[.int .i64 2, .agg #[.int .i64 t632, .int .i64 t633]] rfl (mapq rfl) ?_; (with_reducible refine (span_One.calls kj7 2 t632 t633 t650 t651 true _ A53.out).mono ?_); rintro e w77 ⟨rfl, hb⟩; refine ⟨_, rfl, ?_⟩; replace BK630 := Aside0.mk (blk_below (g := gb630) (o := .cells #[.int .i64 a1_0, .int .i64 a1_1] 49 (0, 0)) (by (with_reducible repeat (first | refine blk_drewN ?_ _ | refine blk_drew ?_ | refine blk_alloc ?_ _)); refine blk_far ?_ NB630_649.out _; (with_reducible repeat (first | refine blk_drewN ?_ _ | refine blk_drew ?_ | refine blk_alloc ?_ _)); refine blk_far ?_ NB630_649.out _; (with_reducible repeat (first | refine blk_drewN ?_ _ | refine blk_drew ?_ | refine blk_alloc ?_ _)); exact BK630.out) hb); replace BK631 := Aside0.mk (blk_below (g := gb631) (o := .cells #[.int .i64 a2_0, .int .i64 a2_1, .int .i64 a2_2, .int .i64 a2_3] 87 (0, 0)) (by (with_reducible repeat (first | refine blk_drewN ?_ _ | refine blk_drew ?_ | refine blk_alloc ?_ _)); refine blk_far ?_ NB631_649.out _; (with_reducible repeat (first | refine blk_drewN ?_ _ | refine blk_drew ?_ | refine blk_alloc ?_ _)); refine blk_far ?_ NB631_649.out _; (with_reducible repeat (first | refine blk_drewN ?_ _ | refine blk_drew ?_ | refine blk_alloc ?_ _)); exact BK631.out) hb); replace BK636 := Aside0.mk (blk_below (g := gb636) (o := .cells #[.int .i64 t632, .int .i64 t633] 59 (0, 0)) (by (with_reducible repeat (first | refine blk_drewN ?_ _ | refine blk_drew ?_ | refine blk_alloc ?_ _)); refine blk_far ?_ NB636_649.out _; (with_reducible repeat (first | refine blk_drewN ?_ _ | refine blk_drew ?_ | refine blk_alloc ?_ _)); refine blk_far ?_ NB636_649.out _; (with_reducible repeat (first | refine blk_drewN ?_ _ | refine blk_drew ?_ | refine blk_alloc ?_ _)); exact BK636.out) hb); replace BK637 := Aside0.mk (blk_below (g := gb637) (o := .cells #[.int .i64 t634, .int .i64 t635] 59 (0, 0)) (by (with_reducible repeat (first | refine blk_drewN ?_ _ | refine blk_drew ?_ | refine blk_alloc ?_ _)); refine blk_far ?_ NB637_649.out _; (with_reducible repeat (first | refine blk_drewN ?_ _ | refine blk_drew ?_ | refine blk_alloc ?_ _)); refine blk_far ?_ NB637_649.out _; (with_reducible repeat (first | refine blk_drewN ?_ _ | refine blk_drew ?_ | refine blk_alloc ?_ _)); exact BK637.out) hb); replace BK643 := Aside0.mk (blk_below (g := gb643) (o := .cells #[.int .i64 t640, .int .i64 t641] 59 (0, 0)) (by (with_reducible repeat (first | refine blk_drewN ?_ _ | refine blk_drew ?_ | refine blk_alloc ?_ _)); refine blk_far ?_ NB643_649.out _; (with_reducible repeat (first | refine blk_drewN ?_ _ | refine blk_drew ?_ | refine blk_alloc ?_ _)); refine blk_far ?_ NB643_649.out _; (with_reducible repeat (first | refine blk_drewN ?_ _ | refine blk_drew ?_ | refine blk_alloc ?_ _)); exact BK643.out) hb); replace BK649 := Aside0.mk (blk_below (g := gb649) (o := .cells #[.int .i64 t646, .int .i64 t647] 59 (0, 0)) (by (with_reducible repeat (first | refine blk_drewN ?_ _ | refine blk_drew ?_ | refine blk_alloc ?_ _)); refine blk_put (cs := #[.int .i64 t646, .int .i64 0]) ?_ 1 _ rfl; (with_reducible repeat (first | refine blk_drewN ?_ _ | refine blk_drew ?_ | refine blk_alloc ?_ _)); refine blk_put (cs := #[.int .i64 0, .int .i64 0]) ?_ 0 _ rfl; (with_reducible repeat (first | refine blk_drewN ?_ _ | refine blk_drew ?_ | refine blk_alloc ?_ _)); exact BK649.out) hb); replace HB := Aside0.mk (below_step (by repeat (first | (with_reducible first | exact HB.out | apply below_alloc | apply pw_below_drewN | apply below_drew1 | refine below_set ?_ GE630.out | refine below_set ?_ GE631.out | refine below_set ?_ GE636.out | refine below_set ?_ GE637.out | refine below_set ?_ GE643.out | refine below_set ?_ GE649.out) | exact HB.out)) hb); (try clear hb)) | ((with_reducible refine gate_dst (N := 17) rfl ?_); refine box_event ?hg (N := 17) ?hd (cs := #[.int .i64 0, .int .i64 0]) (t := 59) ?hr ?_; (case hd => rfl); (case hg => rfl); (case hr => first | (go_simp; done) | (go_simp; rfl)); intro gb653 hg w78 hbox hb; have BK653 := Aside0.mk (hbox); have GW653 := geb hg HB rfl; have GE653 := geb hg HB rfl; have NB630_653 := nbl hg BK630 rfl; have NB653_630 := nbr hg BK630 rfl; have NB631_653 := nbl hg BK631 rfl; have NB653_631 := nbr hg BK631 rfl; have NB636_653 := nbl hg BK636 rfl; have NB653_636 := nbr hg BK636 rfl; have NB637_653 := nbl hg BK637 rfl; have NB653_637 := nbr hg BK637 rfl; have NB643_653 := nbl hg BK643 rfl; have NB653_643 := nbr hg BK643 rfl; have NB649_653 := nbl hg BK649 rfl; have NB653_649 := nbr hg BK649 rfl; replace BK630 := bb BK630 hb rfl; replace BK631 := bb BK631 hb rfl; replace BK636 := bb BK636 hb rfl; replace BK637 := bb BK637 hb rfl; replace BK643 := bb BK643 hb rfl; replace BK649 := bb BK649 hb rfl; replace HB := hst HB hb rfl; clear hb hbox hg; have hnb79 := NB653_630.out; have hnc79 := NB630_653.out; have hnb80 := NB653_631.out; have hnc80 := NB631_653.out; have hnb81 := NB653_636.out; have hnc81 := NB636_653.out; have hnb82 := NB653_637.out; have hnc82 := NB637_653.out; have hnb83 := NB653_643.out; have hnc83 := NB643_653.out; have hnb84 := NB653_649.out; have hnc84 := NB649_653.out; have hcz85_0 : w78.cell? ⟨gb653, 0, none⟩ = some (.int .i64 0) := (blk_cell BK653.out 0).trans rfl; have hcz85_1 : w78.cell? ⟨gb653, 1, none⟩ = some (.int .i64 0) := (blk_cell BK653.out 1).trans rfl; have hfz85_0 := blk_frozen BK653.out 0; have hfz85_1 := blk_frozen BK653.out 1; have hcz86_0 : w78.cell? ⟨gb636, 0, none⟩ = some (.int .i64 t632) := (blk_cell BK636.out 0).trans rfl; have hcz86_1 : w78.cell? ⟨gb636, 1, none⟩ = some (.int .i64 t633) := (blk_cell BK636.out 1).trans rfl; have hfz86_0 := blk_frozen BK636.out 0; have hfz86_1 := blk_frozen BK636.out 1) | ((with_reducible refine gate_callee (f := 57) rfl ?_); refine goesL_ (some 76) rfl rfl Try.func57 (by kernel_rfl) rfl #[.agg #[.int .i64 t632, .int .i64 t633], .bool (a1_0 != 0)] rfl (mapq rfl) ?_; (with_reducible refine (span_Branch.calls t632 t633 (a1_0 != 0) t654 t655 true _ A54.out).mono ?_); rintro e w87 ⟨rfl, hb⟩; refine ⟨_, rfl, ?_⟩; replace BK630 := Aside0.mk (blk_below (g := gb630) (o := .cells #[.int .i64 a1_0, .int .i64 a1_1] 49 (0, 0)) (by (with_reducible repeat (first | refine blk_drewN ?_ _ | refine blk_drew ?_ | refine blk_alloc ?_ _)); refine blk_far ?_ NB630_653.out _; (with_reducible repeat (first | refine blk_drewN ?_ _ | refine blk_drew ?_ | refine blk_alloc ?_ _)); refine blk_far ?_ NB630_653.out _; (with_reducible repeat (first | refine blk_drewN ?_ _ | refine blk_drew ?_ | refine blk_alloc ?_ _)); exact BK630.out) hb); replace BK631 := Aside0.mk (blk_below (g := gb631) (o := .cells #[.int .i64 a2_0, .int .i64 a2_1, .int .i64 a2_2, .int .i64 a2_3] 87 (0, 0)) (by (with_reducible repeat (first | refine blk_drewN ?_ _ | refine blk_drew ?_ | refine blk_alloc ?_ _)); refine blk_far ?_ NB631_653.out _; (with_reducible repeat (first | refine blk_drewN ?_ _ | refine blk_drew ?_ | refine blk_alloc ?_ _)); refine blk_far ?_ NB631_653.out _; (with_reducible repeat (first | refine blk_drewN ?_ _ | refine blk_drew ?_ | refine blk_alloc ?_ _)); exact BK631.out) hb); replace BK636 := Aside0.mk (blk_below (g := gb636) (o := .cells #[.int .i64 t632, .int .i64 t633] 59 (0, 0)) (by (with_reducible repeat (first | refine blk_drewN ?_ _ | refine blk_drew ?_ | refine blk_alloc ?_ _)); refine blk_far ?_ NB636_653.out _; (with_reducible repeat (first | refine blk_drewN ?_ _ | refine blk_drew ?_ | refine blk_alloc ?_ _)); refine blk_far ?_ NB636_653.out _; (with_reducible repeat (first | refine blk_drewN ?_ _ | refine blk_drew ?_ | refine blk_alloc ?_ _)); exact BK636.out) hb); replace BK637 := Aside0.mk (blk_below (g := gb637) (o := .cells #[.int .i64 t634, .int .i64 t635] 59 (0, 0)) (by (with_reducible repeat (first | refine blk_drewN ?_ _ | refine blk_drew ?_ | refine blk_alloc ?_ _)); refine blk_far ?_ NB637_653.out _; (with_reducible repeat (first | refine blk_drewN ?_ _ | refine blk_drew ?_ | refine blk_alloc ?_ _)); refine blk_far ?_ NB637_653.out _; (with_reducible repeat (first | refine blk_drewN ?_ _ | refine blk_drew ?_ | refine blk_alloc ?_ _)); exact BK637.out) hb); replace BK643 := Aside0.mk (blk_below (g := gb643) (o := .cells #[.int .i64 t640, .int .i64 t641] 59 (0, 0)) (by (with_reducible repeat (first | refine blk_drewN ?_ _ | refine blk_drew ?_ | refine blk_alloc ?_ _)); refine blk_far ?_ NB643_653.out _; (with_reducible repeat (first | refine blk_drewN ?_ _ | refine blk_drew ?_ | refine blk_alloc ?_ _)); refine blk_far ?_ NB643_653.out _; (with_reducible repeat (first | refine blk_drewN ?_ _ | refine blk_drew ?_ | refine blk_alloc ?_ _)); exact BK643.out) hb); replace BK649 := Aside0.mk (blk_below (g := gb649) (o := .cells #[.int .i64 t646, .int .i64 t647] 59 (0, 0)) (by (with_reducible repeat (first | refine blk_drewN ?_ _ | refine blk_drew ?_ | refine blk_alloc ?_ _)); refine blk_far ?_ NB649_653.out _; (with_reducible repeat (first | refine blk_drewN ?_ _ | refine blk_drew ?_ | refine blk_alloc ?_ _)); refine blk_far ?_ NB649_653.out _; (with_reducible repeat (first | refine blk_drewN ?_ _ | refine blk_drew ?_ | refine blk_alloc ?_ _)); exact BK649.out) hb); replace BK653 := Aside0.mk (blk_below (g := gb653) (o := .cells #[.int .i64 t650, .int .i64 t651] 59 (0, 0)) (by (with_reducible repeat (first | refine blk_drewN ?_ _ | refine blk_drew ?_ | refine blk_alloc ?_ _)); refine blk_put (cs := #[.int .i64 t650, .int .i64 0]) ?_ 1 _ rfl; (with_reducible repeat (first | refine blk_drewN ?_ _ | refine blk_drew ?_ | refine blk_alloc ?_ _)); refine blk_put (cs := #[.int .i64 0, .int .i64 0]) ?_ 0 _ rfl; (with_reducible repeat (first | refine blk_drewN ?_ _ | refine blk_drew ?_ | refine blk_alloc ?_ _)); exact BK653.out) hb); replace HB := Aside0.mk (below_step (by repeat (first | (with_reducible first | exact HB.out | apply below_alloc | apply pw_below_drewN | apply below_drew1 | refine below_set ?_ GE630.out | refine below_set ?_ GE631.out | refine below_set ?_ GE636.out | refine below_set ?_ GE637.out | refine below_set ?_ GE643.out | refine below_set ?_ GE649.out | refine below_set ?_ GE653.out) | exact HB.out)) hb); (try clear hb)) | ((with_reducible refine gate_dst (N := 19) rfl ?_); refine box_event ?hg (N := 19) ?hd (cs := #[.int .i64 0, .int .i64 0]) (t := 59) ?hr ?_; (case hd => rfl); (case hg => rfl); (case hr => first | (go_simp; done) | (go_simp; rfl)); intro gb657 hg w88 hbox hb; have BK657 := Aside0.mk (hbox); have GW657 := geb hg HB rfl; have GE657 := geb hg HB rfl; have NB630_657 := nbl hg BK630 rfl; have NB657_630 := nbr hg BK630 rfl; have NB631_657 := nbl hg BK631 rfl; have NB657_631 := nbr hg BK631 rfl; have NB636_657 := nbl hg BK636 rfl; have NB657_636 := nbr hg BK636 rfl; have NB637_657 := nbl hg BK637 rfl; have NB657_637 := nbr hg BK637 rfl; have NB643_657 := nbl hg BK643 rfl; have NB657_643 := nbr hg BK643 rfl; have NB649_657 := nbl hg BK649 rfl; have NB657_649 := nbr hg BK649 rfl; have NB653_657 := nbl hg BK653 rfl; have NB657_653 := nbr hg BK653 rfl; replace BK630 := bb BK630 hb rfl; replace BK631 := bb BK631 hb rfl; replace BK636 := bb BK636 hb rfl; replace BK637 := bb BK637 hb rfl; replace BK643 := bb BK643 hb rfl; replace BK649 := bb BK649 hb rfl; replace BK653 := bb BK653 hb rfl; replace HB := hst HB hb rfl; clear hb hbox hg; have hnb89 := NB657_630.out; have hnc89 := NB630_657.out; have hnb90 := NB657_631.out; have hnc90 := NB631_657.out; have hnb91 := NB657_636.out; have hnc91 := NB636_657.out; have hnb92 := NB657_637.out; have hnc92 := NB637_657.out; have hnb93 := NB657_643.out; have hnc93 := NB643_657.out; have hnb94 := NB657_649.out; have hnc94 := NB649_657.out; have hnb95 := NB657_653.out; have hnc95 := NB653_657.out; have hcz96_0 : w88.cell? ⟨gb657, 0, none⟩ = some (.int .i64 0) := (blk_cell BK657.out 0).trans rfl; have hcz96_1 : w88.cell? ⟨gb657, 1, none⟩ = some (.int .i64 0) := (blk_cell BK657.out 1).trans rfl; have hfz96_0 := blk_frozen BK657.out 0; have hfz96_1 := blk_frozen BK657.out 1; have hcz97_0 : w88.cell? ⟨gb649, 0, none⟩ = some (.int .i64 t646) := (blk_cell BK649.out 0).trans rfl; have hcz97_1 : w88.cell? ⟨gb649, 1, none⟩ = some (.int .i64 t647) := (blk_cell BK649.out 1).trans rfl; have hfz97_0 := blk_frozen BK649.out 0; have hfz97_1 := blk_frozen BK649.out 1) | (go_at_call 47; (with_reducible refine (span_Has.calls t646 t647 (wrap64 (-a1_0)) true _ A56.out).mono ?_); rintro e w98 ⟨rfl, hb⟩; replace BK630 := Aside0.mk (blk_below (g := gb630) (o := .cells #[.int .i64 a1_0, .int .i64 a1_1] 49 (0, 0)) (by (with_reducible repeat (first | refine blk_drewN ?_ _ | refine blk_drew ?_ | refine blk_alloc ?_ _)); refine blk_far ?_ NB630_657.out _; (with_reducible repeat (first | refine blk_drewN ?_ _ | refine blk_drew ?_ | refine blk_alloc ?_ _)); refine blk_far ?_ NB630_657.out _; (with_reducible repeat (first | refine blk_drewN ?_ _ | refine blk_drew ?_ | refine blk_alloc ?_ _)); exact BK630.out) hb); replace BK631 := Aside0.mk (blk_below (g := gb631) (o := .cells #[.int .i64 a2_0, .int .i64 a2_1, .int .i64 a2_2, .int .i64 a2_3] 87 (0, 0)) (by (with_reducible repeat (first | refine blk_drewN ?_ _ | refine blk_drew ?_ | refine blk_alloc ?_ _)); refine blk_far ?_ NB631_657.out _; (with_reducible repeat (first | refine blk_drewN ?_ _ | refine blk_drew ?_ | refine blk_alloc ?_ _)); refine blk_far ?_ NB631_657.out _; (with_reducible repeat (first | refine blk_drewN ?_ _ | refine blk_drew ?_ | refine blk_alloc ?_ _)); exact BK631.out) hb); replace BK636 := Aside0.mk (blk_below (g := gb636) (o := .cells #[.int .i64 t632, .int .i64 t633] 59 (0, 0)) (by (with_reducible repeat (first | refine blk_drewN ?_ _ | refine blk_drew ?_ | refine blk_alloc ?_ _)); refine blk_far ?_ NB636_657.out _; (with_reducible repeat (first | refine blk_drewN ?_ _ | refine blk_drew ?_ | refine blk_alloc ?_ _)); refine blk_far ?_ NB636_657.out _; (with_reducible repeat (first | refine blk_drewN ?_ _ | refine blk_drew ?_ | refine blk_alloc ?_ _)); exact BK636.out) hb); replace BK637 := Aside0.mk (blk_below (g := gb637) (o := .cells #[.int .i64 t634, .int .i64 t635] 59 (0, 0)) (by (with_reducible repeat (first | refine blk_drewN ?_ _ | refine blk_drew ?_ | refine blk_alloc ?_ _)); refine blk_far ?_ NB637_657.out _; (with_reducible repeat (first | refine blk_drewN ?_ _ | refine blk_drew ?_ | refine blk_alloc ?_ _)); refine blk_far ?_ NB637_657.out _; (with_reducible repeat (first | refine blk_drewN ?_ _ | refine blk_drew ?_ | refine blk_alloc ?_ _)); exact BK637.out) hb); replace BK643 := Aside0.mk (blk_below (g := gb643) (o := .cells #[.int .i64 t640, .int .i64 t641] 59 (0, 0)) (by (with_reducible repeat (first | refine blk_drewN ?_ _ | refine blk_drew ?_ | refine blk_alloc ?_ _)); refine blk_far ?_ NB643_657.out _; (with_reducible repeat (first | refine blk_drewN ?_ _ | refine blk_drew ?_ | refine blk_alloc ?_ _)); refine blk_far ?_ NB643_657.out _; (with_reducible repeat (first | refine blk_drewN ?_ _ | refine blk_drew ?_ | refine blk_alloc ?_ _)); exact BK643.out) hb); replace BK649 := Aside0.mk (blk_below (g := gb649) (o := .cells #[.int .i64 t646, .int .i64 t647] 59 (0, 0)) (by (with_reducible repeat (first | refine blk_drewN ?_ _ | refine blk_drew ?_ | refine blk_alloc ?_ _)); refine blk_far ?_ NB649_657.out _; (with_reducible repeat (first | refine blk_drewN ?_ _ | refine blk_drew ?_ | refine blk_alloc ?_ _)); refine blk_far ?_ NB649_657.out _; (with_reducible repeat (first | refine blk_drewN ?_ _ | refine blk_drew ?_ | refine blk_alloc ?_ _)); exact BK649.out) hb); replace BK653 := Aside0.mk (blk_below (g := gb653) (o := .cells #[.int .i64 t650, .int .i64 t651] 59 (0, 0)) (by (with_reducible repeat (first | refine blk_drewN ?_ _ | refine blk_drew ?_ | refine blk_alloc ?_ _)); refine blk_far ?_ NB653_657.out _; (with_reducible repeat (first | refine blk_drewN ?_ _ | refine blk_drew ?_ | refine blk_alloc ?_ _)); refine blk_far ?_ NB653_657.out _; (with_reducible repeat (first | refine blk_drewN ?_ _ | refine blk_drew ?_ | refine blk_alloc ?_ _)); exact BK653.out) hb); replace BK657 := Aside0.mk (blk_below (g := gb657) (o := .cells #[.int .i64 t654, .int .i64 t655] 59 (0, 0)) (by (with_reducible repeat (first | refine blk_drewN ?_ _ | refine blk_drew ?_ | refine blk_alloc ?_ _)); refine blk_put (cs := #[.int .i64 t654, .int .i64 0]) ?_ 1 _ rfl; (with_reducible repeat (first | refine blk_drewN ?_ _ | refine blk_drew ?_ | refine blk_alloc ?_ _)); refine blk_put (cs := #[.int .i64 0, .int .i64 0]) ?_ 0 _ rfl; (with_reducible repeat (first | refine blk_drewN ?_ _ | refine blk_drew ?_ | refine blk_alloc ?_ _)); exact BK657.out) hb); replace HB := Aside0.mk (below_step (by repeat (first | (with_reducible first | exact HB.out | apply below_alloc | apply pw_below_drewN | apply below_drew1 | refine below_set ?_ GE630.out | refine below_set ?_ GE631.out | refine below_set ?_ GE636.out | refine below_set ?_ GE637.out | refine below_set ?_ GE643.out | refine below_set ?_ GE649.out | refine below_set ?_ GE653.out | refine below_set ?_ GE657.out) | exact HB.out)) hb); (try clear hb); have hcz99_0 : w98.cell? ⟨gb653, 0, none⟩ = some (.int .i64 t650) := (blk_cell BK653.out 0).trans rfl; have hcz99_1 : w98.cell? ⟨gb653, 1, none⟩ = some (.int .i64 t651) := (blk_cell BK653.out 1).trans rfl; have hfz99_0 := blk_frozen BK653.out 0; have hfz99_1 := blk_frozen BK653.out 1) | (go_at_call 47; (with_reducible refine (span_Has.calls t650 t651 a1_0 true _ A59.out).mono ?_); rintro e w100 ⟨rfl, hb⟩; replace BK630 := bb BK630 hb rfl; replace BK631 := bb BK631 hb rfl; replace BK636 := bb BK636 hb rfl; replace BK637 := bb BK637 hb rfl; replace BK643 := bb BK643 hb rfl; replace BK649 := bb BK649 hb rfl; replace BK653 := bb BK653 hb rfl; replace BK657 := bb BK657 hb rfl; replace HB := hst HB hb rfl; (try clear hb); have hcz101_0 : w100.cell? ⟨gb657, 0, none⟩ = some (.int .i64 t654) := (blk_cell BK657.out 0).trans rfl; have hcz101_1 : w100.cell? ⟨gb657, 1, none⟩ = some (.int .i64 t655) := (blk_cell BK657.out 1).trans rfl; have hfz101_0 := blk_frozen BK657.out 0; have hfz101_1 := blk_frozen BK657.out 1) | (go_at_call 47; (with_reducible refine (span_Has.calls t654 t655 a1_0 t660 _ A62.out).mono ?_); rintro e w102 ⟨rfl, hb⟩; replace BK630 := bb BK630 hb rfl; replace BK631 := bb BK631 hb rfl; replace BK636 := bb BK636 hb rfl; replace BK637 := bb BK637 hb rfl; replace BK643 := bb BK643 hb rfl; replace BK649 := bb BK649 hb rfl; replace BK653 := bb BK653 hb rfl; replace BK657 := bb BK657 hb rfl; replace HB := hst HB hb rfl; (try clear hb)))
         go_ret
         exact ⟨by first | rfl | (simp [errW_none, errW_some] <;> rfl) | (simp [*, errW_none, errW_some] <;> rfl), by repeat (first | (with_reducible first | exact HB.out | apply below_alloc | apply pw_below_drewN | apply below_drew1 | refine below_set ?_ GE630.out | refine below_set ?_ GE631.out | refine below_set ?_ GE636.out | refine below_set ?_ GE637.out | refine below_set ?_ GE643.out | refine below_set ?_ GE649.out | refine below_set ?_ GE653.out | refine below_set ?_ GE657.out) | exact HB.out)⟩
        ·
         replace c61 := Bool.eq_false_iff.mpr c61
         subst c61
         rw [if_neg (show ¬ (false = true) by decide)] at H
         exact absurd ((Option.some.inj H).trans hr_.out) (by decide)
       ·
        replace c60 := Bool.eq_false_iff.mpr c60
        subst c60
        rw [if_neg (show ¬ (false = true) by decide)] at H
        exact absurd ((Option.some.inj H).trans hr_.out) (by decide)
      ·
       replace c58 := Bool.eq_false_iff.mpr c58
       subst c58
       rw [if_neg (show ¬ (false = true) by decide)] at H
       exact absurd ((Option.some.inj H).trans hr_.out) (by decide)
     ·
      replace c57 := Bool.eq_false_iff.mpr c57
      subst c57
      rw [if_neg (show ¬ (false = true) by decide)] at H
      exact absurd ((Option.some.inj H).trans hr_.out) (by decide)
    ·
     replace c55 := Bool.eq_false_iff.mpr c55
     subst c55
     rw [if_neg (show ¬ (false = true) by decide)] at H
     exact absurd ((Option.some.inj H).trans hr_.out) (by decide)

end Go.Proofs.Ytpacmhhaabhdjaa.SP
