-- Written by a program of this session: plain functions and their walks. Lean checks it.
import Derived.Test.YtpacmhhaabhdjaaKN0
import Derived.Test.YtpacmhhaabhdjaaKN3
import Derived.Test.YtpacmhhaabhdjaaKN4
import Derived.Test.YtpacmhhaabhdjaaKN5
namespace Go.Proofs.Ytpacmhhaabhdjaa.KN
open Go.RowKit Go.Proofs.YtpacmhhaabhdjaaW.PrintWords Go.Proofs.YtpacmhhaabhdjaaW.PrintLast Go.Proofs.YtpacmhhaabhdjaaW.PrintMore
attribute [local go_sem] max2_int min2_int max_two min_two max_three min_three max_four min_four   -- for this text's walks alone
set_option linter.unusedVariables false
set_option linter.unusedSimpArgs false

/-! ### avermentlaw09_KnownRises: function 4 -/
def avermentlaw09_KnownRises.j0 : Nat → Bool → Bool → Int → Bool → Int → Option (Bool)
 | 0, _, _, _, _, _ => none
 | k + 1, x68, x233000, x233001, x234000, x234001 => if x68 = true then (some false) else ((avermentlaw09_To.f x233000 x233001).bind fun bt261 => ((avermentlaw09_To.f x234000 x234001).bind fun bt263 => ((known_Meet.f bt261.1 bt261.2 bt263.1 bt263.2).bind fun bt265 => ((avermentlaw09_To.f x233000 x233001).bind fun bt269 => ((avermentlaw09_To.f x234000 x234001).bind fun bt271 => ((known_Join.f bt269.1 bt269.2 bt271.1 bt271.2).bind fun bt273 => (if bt265.2.2 = true then ((avermentlaw09_To.f x233000 x233001).bind fun bt276 => ((known_Within.f bt265.1 bt265.2.1 bt276.1 bt276.2).bind fun t278 => (if t278 = true then ((avermentlaw09_To.f x234000 x234001).bind fun bt279 => ((known_Within.f bt265.1 bt265.2.1 bt279.1 bt279.2).bind fun t281 => (if t281 = true then ((avermentlaw09_To.f x233000 x233001).bind fun bt282 => ((known_Within.f bt282.1 bt282.2 bt273.1 bt273.2).bind fun t284 => (if t284 = true then ((avermentlaw09_To.f x234000 x234001).bind fun bt285 => ((known_Within.f bt285.1 bt285.2 bt273.1 bt273.2).bind fun t287 => (some t287))) else (some false)))) else (some false)))) else (some false)))) else ((avermentlaw09_To.f x233000 x233001).bind fun bt288 => ((known_Within.f bt288.1 bt288.2 bt273.1 bt273.2).bind fun t290 => (if t290 = true then ((avermentlaw09_To.f x234000 x234001).bind fun bt291 => ((known_Within.f bt291.1 bt291.2 bt273.1 bt273.2).bind fun t293 => (some t293))) else (some false)))))))))))
def avermentlaw09_KnownRises.f (k : Nat) (a0 : Int) (a1_0 : Bool) (a1_1 : Int) (a2_0 : Bool) (a2_1 : Int) : Option (Bool) := (avermentlaw09_To.f a1_0 a1_1).bind fun bt234 => ((avermentlaw09_To.f a2_0 a2_1).bind fun bt236 => ((known_Two.f k a0 bt234.1 bt234.2 bt236.1 bt236.2).bind fun bt238 => ((known_Any.f).bind fun bt242 => ((avermentlaw09_To.f a2_0 a2_1).bind fun bt244 => ((known_Two.f k a0 bt242.1 bt242.2 bt244.1 bt244.2).bind fun bt246 => ((avermentlaw09_To.f a1_0 a1_1).bind fun bt250 => ((known_Any.f).bind fun bt252 => ((known_Two.f k a0 bt250.1 bt250.2 bt252.1 bt252.2).bind fun bt254 => ((avermentlaw09_told.f k).bind fun t258 => (if t258 = true then (if bt238.2.2 = true then (if bt246.2.2 = true then ((known_Within.f bt238.1 bt238.2.1 bt246.1 bt246.2.1).bind fun t259 => (if t259 = true then (if bt254.2.2 = true then ((known_Within.f bt238.1 bt238.2.1 bt254.1 bt254.2.1).bind fun t260 => (avermentlaw09_KnownRises.j0 k (!t260) a1_0 a1_1 a2_0 a2_1)) else (avermentlaw09_KnownRises.j0 k true a1_0 a1_1 a2_0 a2_1)) else (avermentlaw09_KnownRises.j0 k true a1_0 a1_1 a2_0 a2_1))) else (avermentlaw09_KnownRises.j0 k true a1_0 a1_1 a2_0 a2_1)) else (avermentlaw09_KnownRises.j0 k false a1_0 a1_1 a2_0 a2_1)) else (avermentlaw09_KnownRises.j0 k true a1_0 a1_1 a2_0 a2_1)))))))))))
theorem avermentlaw09_KnownRises.mono_l : ∀ k, (∀ y0 y1 y2 y3 y4, LeO (avermentlaw09_KnownRises.j0 k y0 y1 y2 y3 y4) (avermentlaw09_KnownRises.j0 (k + 1) y0 y1 y2 y3 y4))
 | 0 => fun _ _ _ _ _ r h => by simp [avermentlaw09_KnownRises.j0] at h
 | k + 1 => by
  have ih0 := avermentlaw09_KnownRises.mono_l k
  ·
   intro y0 y1 y2 y3 y4
   unfold avermentlaw09_KnownRises.j0
   repeat' first
   | (with_reducible exact ih0 _ _ _ _ _)
   | (with_reducible exact avermentlaw09_told.mono _)
   | (with_reducible exact known_Two.mono _ _ _ _ _ _)
   | (with_reducible exact LeO.refl _)
   | (with_reducible exact LeO.none _)
   | (with_reducible refine LeO.ite ?_ ?_)
   | (with_reducible refine LeO.bind ?_ (fun _ => ?_))
   | exact ih0 _ _ _ _ _
   | exact avermentlaw09_told.mono _
   | exact known_Two.mono _ _ _ _ _ _
   | exact LeO.none _
   | refine LeO.ite ?_ ?_
   | refine LeO.bind ?_ (fun _ => ?_)
theorem avermentlaw09_KnownRises.mono : ∀ a0 a1 a2 a3 a4 k, LeO (avermentlaw09_KnownRises.f k a0 a1 a2 a3 a4) (avermentlaw09_KnownRises.f (k + 1) a0 a1 a2 a3 a4) := by
 intro a0 a1 a2 a3 a4 k
 have ih0 := avermentlaw09_KnownRises.mono_l k
 unfold avermentlaw09_KnownRises.f
 repeat' first
   | (with_reducible exact ih0 _ _ _ _ _)
   | (with_reducible exact avermentlaw09_told.mono _)
   | (with_reducible exact known_Two.mono _ _ _ _ _ _)
   | (with_reducible exact LeO.refl _)
   | (with_reducible exact LeO.none _)
   | (with_reducible refine LeO.ite ?_ ?_)
   | (with_reducible refine LeO.bind ?_ (fun _ => ?_))
   | exact ih0 _ _ _ _ _
   | exact avermentlaw09_told.mono _
   | exact known_Two.mono _ _ _ _ _ _
   | exact LeO.none _
   | refine LeO.ite ?_ ?_
   | refine LeO.bind ?_ (fun _ => ?_)
def avermentlaw09_KnownRises.T1 : Bool × List (List Nat × List Nat) := (true, [([], []), ([], []), ([1], [1]), ([], []), ([3, 2], [3]), ([0, 2, 4, 4], [0, 2, 4]), ([5], [5]), ([6], [6]), ([6], [6]), ([], []), ([9, 7, 5, 0, 1, 2, 3, 4, 5, 6, 7, 9], [7, 9]), ([8, 10, 0, 1, 2, 3, 4, 5, 6, 7, 8, 9, 10], [8])])
def avermentlaw09_KnownRises.B1 : List Nat := [0, 0, 2, 0, 14, 31, 63, 127, 127, 0, 767, 2047]
theorem avermentlaw09_KnownRises.tab1 : rtab .any (opsOf Try.f4 1) = avermentlaw09_KnownRises.T1 := by kernel_rfl
theorem avermentlaw09_KnownRises.bits1 : waitsOk avermentlaw09_KnownRises.T1.2 avermentlaw09_KnownRises.B1 = true := by kernel_rfl
def avermentlaw09_KnownRises.T2 : Bool × List (List Nat × List Nat) := (true, [([], []), ([], []), ([], []), ([2, 1], [2]), ([0, 1, 3, 3], [0, 1, 3]), ([4], [4]), ([5], [5]), ([5], [5]), ([], []), ([8, 6, 4, 0, 1, 2, 3, 4, 5, 6, 8], [6, 8]), ([7, 9, 0, 1, 2, 3, 4, 5, 6, 7, 8, 9], [7])])
def avermentlaw09_KnownRises.B2 : List Nat := [0, 0, 0, 6, 15, 31, 63, 63, 0, 383, 1023]
theorem avermentlaw09_KnownRises.tab2 : rtab .any (opsOf Try.f4 2) = avermentlaw09_KnownRises.T2 := by kernel_rfl
theorem avermentlaw09_KnownRises.bits2 : waitsOk avermentlaw09_KnownRises.T2.2 avermentlaw09_KnownRises.B2 = true := by kernel_rfl
def avermentlaw09_KnownRises.T6 : Bool × List (List Nat × List Nat) := (true, [([], []), ([0], [0]), ([], []), ([2, 1], [2]), ([1, 3, 3], [1, 3]), ([4], [4]), ([5], [5]), ([5], [5]), ([], []), ([8, 6, 4, 0, 1, 2, 3, 4, 5, 6, 8], [6, 8]), ([7, 9, 0, 1, 2, 3, 4, 5, 6, 7, 8, 9], [7])])
def avermentlaw09_KnownRises.B6 : List Nat := [0, 1, 0, 7, 15, 31, 63, 63, 0, 383, 1023]
theorem avermentlaw09_KnownRises.tab6 : rtab .any (opsOf Try.f4 6) = avermentlaw09_KnownRises.T6 := by kernel_rfl
theorem avermentlaw09_KnownRises.bits6 : waitsOk avermentlaw09_KnownRises.T6.2 avermentlaw09_KnownRises.B6 = true := by kernel_rfl
def avermentlaw09_KnownRises.T8 : Bool × List (List Nat × List Nat) := (true, [([], []), ([0], [0]), ([1], [1]), ([2], [2]), ([2], [2]), ([4, 2, 2], [2, 4]), ([3, 5, 5, 2], [2, 3, 5]), ([6, 6, 2], [2, 6]), ([7], [7]), ([7], [7]), ([9, 7, 7], [7, 9]), ([8, 10, 10, 7], [7, 8, 10]), ([7, 11, 2], [2, 7, 11]), ([2, 12], [2, 12]), ([13, 11], [13]), ([14], [14]), ([15, 14, 14], [14, 15]), ([14], [14]), ([16, 17, 16, 14], [14, 16, 17]), ([14, 18], [14, 18]), ([19, 18], [19]), ([20], [20]), ([21, 20, 20], [20, 21]), ([20], [20]), ([22, 23, 22, 20], [20, 22, 23]), ([20, 24], [20, 24]), ([25, 24, 0, 1, 2, 3, 4, 5, 6, 7, 8, 9, 10, 11, 12, 13, 14, 15, 16, 17, 18, 19, 20, 21, 22, 23, 24, 25], [25])])
def avermentlaw09_KnownRises.B8 : List Nat := [0, 1, 3, 7, 7, 23, 63, 127, 255, 255, 767, 2047, 4095, 8191, 16383, 32767, 65535, 32767, 262143, 524287, 1048575, 2097151, 4194303, 2097151, 16777215, 33554431, 67108863]
theorem avermentlaw09_KnownRises.tab8 : rtab .any (opsOf Try.f4 8) = avermentlaw09_KnownRises.T8 := by kernel_rfl
theorem avermentlaw09_KnownRises.bits8 : waitsOk avermentlaw09_KnownRises.T8.2 avermentlaw09_KnownRises.B8 = true := by kernel_rfl
set_option maxHeartbeats 8000000 in
set_option maxRecDepth 100000 in
theorem avermentlaw09_KnownRises.calls (k : Nat) (a0 : Int) (a1_0 : Bool) (a1_1 : Int) (a2_0 : Bool) (a2_1 : Int) (r : Bool) (w : World) (hr_ : Aside0 (r = true)) (h : avermentlaw09_KnownRises.f k a0 a1_0 a1_1 a2_0 a2_1 = some r) :
  Calls Try.prog 4 #[.int .i64 a0, .agg #[.bool a1_0, .int .i64 a1_1], .agg #[.bool a2_0, .int .i64 a2_1]] w fun e w' => e = .returned (.bool r) ∧ Below w.heap.size w w' := by
 have hu23 := Try.underlying23
 have hu24 := Try.underlying24
 have HB := Aside0.mk (Below.refl w.heap.size w)
 have H : ((avermentlaw09_To.f a1_0 a1_1).bind fun bt234 => ((avermentlaw09_To.f a2_0 a2_1).bind fun bt236 => ((known_Two.f k a0 bt234.1 bt234.2 bt236.1 bt236.2).bind fun bt238 => ((known_Any.f).bind fun bt242 => ((avermentlaw09_To.f a2_0 a2_1).bind fun bt244 => ((known_Two.f k a0 bt242.1 bt242.2 bt244.1 bt244.2).bind fun bt246 => ((avermentlaw09_To.f a1_0 a1_1).bind fun bt250 => ((known_Any.f).bind fun bt252 => ((known_Two.f k a0 bt250.1 bt250.2 bt252.1 bt252.2).bind fun bt254 => ((avermentlaw09_told.f k).bind fun t258 => (if t258 = true then (if bt238.2.2 = true then (if bt246.2.2 = true then ((known_Within.f bt238.1 bt238.2.1 bt246.1 bt246.2.1).bind fun t259 => (if t259 = true then (if bt254.2.2 = true then ((known_Within.f bt238.1 bt238.2.1 bt254.1 bt254.2.1).bind fun t260 => (avermentlaw09_KnownRises.j0 k (!t260) a1_0 a1_1 a2_0 a2_1)) else (avermentlaw09_KnownRises.j0 k true a1_0 a1_1 a2_0 a2_1)) else (avermentlaw09_KnownRises.j0 k true a1_0 a1_1 a2_0 a2_1))) else (avermentlaw09_KnownRises.j0 k true a1_0 a1_1 a2_0 a2_1)) else (avermentlaw09_KnownRises.j0 k false a1_0 a1_1 a2_0 a2_1)) else (avermentlaw09_KnownRises.j0 k true a1_0 a1_1 a2_0 a2_1)))))))))))) = some r := h
 clear h
 replace H := Option.bind_eq_some_iff.mp H
 obtain ⟨⟨t234, t235⟩, A40, H⟩ := H
 (try dsimp only at H)
 have A4 := Aside0.mk A40
 clear A40
 replace H := Option.bind_eq_some_iff.mp H
 obtain ⟨⟨t236, t237⟩, A50, H⟩ := H
 (try dsimp only at H)
 have A5 := Aside0.mk A50
 clear A50
 replace H := Option.bind_eq_some_iff.mp H
 obtain ⟨⟨t238, t239, t240⟩, A60, H⟩ := H
 (try dsimp only at H)
 have A6 := Aside0.mk A60
 clear A60
 replace H := Option.bind_eq_some_iff.mp H
 obtain ⟨⟨t242, t243⟩, A70, H⟩ := H
 (try dsimp only at H)
 have A7 := Aside0.mk A70
 clear A70
 replace H := Option.bind_eq_some_iff.mp H
 obtain ⟨⟨t244, t245⟩, A80, H⟩ := H
 (try dsimp only at H)
 have A8 := Aside0.mk A80
 clear A80
 replace H := Option.bind_eq_some_iff.mp H
 obtain ⟨⟨t246, t247, t248⟩, A90, H⟩ := H
 (try dsimp only at H)
 have A9 := Aside0.mk A90
 clear A90
 replace H := Option.bind_eq_some_iff.mp H
 obtain ⟨⟨t250, t251⟩, A100, H⟩ := H
 (try dsimp only at H)
 have A10 := Aside0.mk A100
 clear A100
 replace H := Option.bind_eq_some_iff.mp H
 obtain ⟨⟨t252, t253⟩, A110, H⟩ := H
 (try dsimp only at H)
 have A11 := Aside0.mk A110
 clear A110
 replace H := Option.bind_eq_some_iff.mp H
 obtain ⟨⟨t254, t255, t256⟩, A120, H⟩ := H
 (try dsimp only at H)
 have A12 := Aside0.mk A120
 clear A120
 have HC13 := Aside0.mk H
 clear H
 go_enter Try.func4, Try.ntmps4
 try go_wp2_with (first | ((with_reducible refine gate_dst (N := 4) rfl ?_); refine box_event ?hg (N := 4) ?hd (cs := #[.bool a1_0, .int .i64 a1_1]) (t := 23) ?hr ?_; (case hd => rfl); (case hg => rfl); (case hr => first | (go_simp; done) | (go_simp; rfl)); intro gb232 hg w14 hbox hb; have BK232 := Aside0.mk (hbox); have GW232 := geb hg HB rfl; have GE232 := geb hg HB rfl; replace HB := hst HB hb rfl; clear hb hbox hg) | ((with_reducible refine gate_dst (N := 5) rfl ?_); refine box_event ?hg (N := 5) ?hd (cs := #[.bool a2_0, .int .i64 a2_1]) (t := 23) ?hr ?_; (case hd => rfl); (case hg => rfl); (case hr => first | (go_simp; done) | (go_simp; rfl)); intro gb233 hg w15 hbox hb; have BK233 := Aside0.mk (hbox); have GW233 := geb hg HB rfl; have GE233 := geb hg HB rfl; have NB232_233 := nbl hg BK232 rfl; have NB233_232 := nbr hg BK232 rfl; replace BK232 := bb BK232 hb rfl; replace HB := hst HB hb rfl; clear hb hbox hg))
 replace BK232 := Aside0.mk (blk_drew BK232.out); replace BK233 := Aside0.mk (blk_drew BK233.out); replace HB := Aside0.mk (below_drew1 HB.out)
 refine start_ (n := 12) (S := fun w' => w'.cell? ⟨gb232, 0, none⟩ = some (.bool a1_0) ∧ w'.cell? ⟨gb232, 1, none⟩ = some (.int .i64 a1_1) ∧ w'.cell? ⟨gb233, 0, none⟩ = some (.bool a2_0) ∧ w'.cell? ⟨gb233, 1, none⟩ = some (.int .i64 a2_1)) (ds := []) #[false, false, false, false, false, false, false, false, false, false, false, false] (by kernel_rfl) rfl rfl ⟨bc BK232 0 rfl, bc BK232 1 rfl, bc BK233 0 rfl, bc BK233 1 rfl⟩ (fun hHeld => ?_); refine with_tabW avermentlaw09_KnownRises.tab1 avermentlaw09_KnownRises.bits1 (fun HT_ HW_ => ?_)
 generalize w15.drew = w16 at BK232 BK233 HB hHeld ⊢
 refine pure_ (i := 0) (N := some 17) (v := ?_) (a' := ?_) #[true, false, false, false, false, false, false, false, false, false, false, false] rfl rfl (any_of HT_.out (by kernel_rfl)) (fun _ _ _ h => h) (Or.inl ⟨by rfl, ?_⟩) ?_ ?_
 rotate_left; · (intro w'; go_simp; with_reducible rfl)
 rotate_left; · (simp only [Act.put, List.setIfInBounds_toArray, List.set_cons_zero, List.set_cons_succ, i64_w, i32_w]; rfl)
 refine take_ (i := 1) (N := some 18) (v := ?_) (a' := ?_) #[true, true, false, false, false, false, false, false, false, false, false, false] rfl rfl (take_ofW HT_.out HW_.out (by kernel_rfl)) (fun _ _ _ h => h) (Or.inl ⟨by rfl, ?_⟩) hHeld ?_ ?_
 rotate_left
 ·
  rintro w' ⟨s0, s1, s2, s3⟩
  go_simp
  with_reducible rfl
 rotate_left
 ·
  simp only [Act.put, List.setIfInBounds_toArray, List.set_cons_zero, List.set_cons_succ, i64_w, i32_w]
  rfl
 refine take_ (i := 3) (N := some 20) (v := ?_) (a' := ?_) #[true, true, false, true, false, false, false, false, false, false, false, false] rfl rfl (take_ofW HT_.out HW_.out (by kernel_rfl)) (fun _ _ _ h => h) (Or.inl ⟨by rfl, ?_⟩) hHeld ?_ ?_
 rotate_left
 ·
  rintro w' ⟨s0, s1, s2, s3⟩
  go_simp
  with_reducible rfl
 rotate_left
 ·
  simp only [Act.put, List.setIfInBounds_toArray, List.set_cons_zero, List.set_cons_succ, i64_w, i32_w]
  rfl
 refine join_ (σ := Nat) 2 #[true, true, true, true, true, true, true, true, true, true, false, false] (fun s_ => [(19, .agg #[.bool t234, .int .i64 t235]), (21, .agg #[.bool t236, .int .i64 t237]), (22, .tuple #[.agg #[.bool t238, .int .i64 t239], .bool t240]), (7, .pointer (some ⟨s_, 0, none⟩)), (16, .tuple #[.agg #[.bool t238, .int .i64 t239], .bool t240]), (23, .agg #[.bool t238, .int .i64 t239]), (24, .bool t240)]) (fun s_ w' => (w'.cell? ⟨gb232, 0, none⟩ = some (.bool a1_0) ∧ w'.cell? ⟨gb232, 1, none⟩ = some (.int .i64 a1_1) ∧ w'.cell? ⟨gb233, 0, none⟩ = some (.bool a2_0) ∧ w'.cell? ⟨gb233, 1, none⟩ = some (.int .i64 a2_1)) ∧ (w'.heap[gb232]? = some (.cells #[.bool a1_0, .int .i64 a1_1] 23 (0, 0))) ∧ (w'.heap[gb233]? = some (.cells #[.bool a2_0, .int .i64 a2_1] 23 (0, 0))) ∧ (w'.heap[s_]? = some (.cells #[.bool false, .int .i64 0] 24 (0, 0))) ∧ (w.heap.size ≤ s_) ∧ (w.heap.size ≤ s_) ∧ (gb232 ≠ s_) ∧ (s_ ≠ gb232) ∧ (gb233 ≠ s_) ∧ (s_ ≠ gb233) ∧ (Below w.heap.size w w')) ?_ ?_
 rotate_left
 ·
  intro hCont
  refine two_ (i := 2) (j := 9) (Ni := some 19) (Nj := some 7) #[true, true, true, true, false, false, false, false, false, false, false, false] #[true, true, false, true, false, false, false, false, false, true, false, false] rfl rfl rfl rfl (two_of HT_.out (by kernel_rfl)) (by decide) (by decide) (fun K hK => ?_) (fun K hK => ?_)
  ·
   skip
   refine goes_ Try.func14 (by kernel_rfl) rfl #[.agg #[.bool a1_0, .int .i64 a1_1]] (by rfl) rfl rfl (mapq rfl) ?_
   with_reducible refine (avermentlaw09_To.calls a1_0 a1_1 t234 t235 _ A4.out).mono ?_
   rintro e w17 ⟨rfl, hb⟩
   refine ⟨_, rfl, ?_⟩
   replace BK232 := bb BK232 hb rfl; replace BK233 := bb BK233 hb rfl; replace HB := hst HB hb rfl
   (try clear hb)
   refine hK.out _ _ ⟨bc BK232 0 rfl, bc BK232 1 rfl, bc BK233 0 rfl, bc BK233 1 rfl⟩ (fun hHeld => ?_)
   clear hK K
   refine norm_ (a' := ?_) ?_ ?_
   rotate_left; · (show Act.put _ (some 19) _ = _; simp only [Act.put, List.setIfInBounds_toArray, List.set_cons_zero, List.set_cons_succ, i64_w, i32_w]; rfl)
   refine two_ (i := 4) (j := 9) (Ni := some 21) (Nj := some 7) #[true, true, true, true, true, false, false, false, false, false, false, false] #[true, true, true, true, false, false, false, false, false, true, false, false] rfl rfl rfl rfl (two_of HT_.out (by kernel_rfl)) (by decide) (by decide) (fun K hK => ?_) (fun K hK => ?_)
   ·
    skip
    refine goes_ Try.func14 (by kernel_rfl) rfl #[.agg #[.bool a2_0, .int .i64 a2_1]] (by rfl) rfl rfl (mapq rfl) ?_
    with_reducible refine (avermentlaw09_To.calls a2_0 a2_1 t236 t237 _ A5.out).mono ?_
    rintro e w18 ⟨rfl, hb⟩
    refine ⟨_, rfl, ?_⟩
    replace BK232 := bb BK232 hb rfl; replace BK233 := bb BK233 hb rfl; replace HB := hst HB hb rfl
    (try clear hb)
    refine hK.out _ _ ⟨bc BK232 0 rfl, bc BK232 1 rfl, bc BK233 0 rfl, bc BK233 1 rfl⟩ (fun hHeld => ?_)
    clear hK K
    refine norm_ (a' := ?_) ?_ ?_
    rotate_left; · (show Act.put _ (some 21) _ = _; simp only [Act.put, List.setIfInBounds_toArray, List.set_cons_zero, List.set_cons_succ, i64_w, i32_w]; rfl)
    refine two_ (i := 5) (j := 9) (Ni := some 22) (Nj := some 7) #[true, true, true, true, true, true, false, false, false, false, false, false] #[true, true, true, true, true, false, false, false, false, true, false, false] rfl rfl rfl rfl (two_of HT_.out (by kernel_rfl)) (by decide) (by decide) (fun K hK => ?_) (fun K hK => ?_)
    ·
     skip
     refine goes_ Try.func27 (by kernel_rfl) rfl #[.int .i64 a0, .agg #[.bool t234, .int .i64 t235], .agg #[.bool t236, .int .i64 t237]] (by rfl) rfl rfl (mapq rfl) ?_
     with_reducible refine (known_Two.calls k a0 t234 t235 t236 t237 t238 t239 t240 _ A6.out).mono ?_
     rintro e w19 ⟨rfl, hb⟩
     refine ⟨_, rfl, ?_⟩
     replace BK232 := bb BK232 hb rfl; replace BK233 := bb BK233 hb rfl; replace HB := hst HB hb rfl
     (try clear hb)
     refine hK.out _ _ ⟨bc BK232 0 rfl, bc BK232 1 rfl, bc BK233 0 rfl, bc BK233 1 rfl⟩ (fun hHeld => ?_)
     clear hK K
     refine norm_ (a' := ?_) ?_ ?_
     rotate_left; · (show Act.put _ (some 22) _ = _; simp only [Act.put, List.setIfInBounds_toArray, List.set_cons_zero, List.set_cons_succ, i64_w, i32_w]; rfl)
     refine pure_ (i := 6) (N := some 16) (v := ?_) (a' := ?_) #[true, true, true, true, true, true, true, false, false, false, false, false] rfl rfl (any_of HT_.out (by kernel_rfl)) (fun _ _ _ h => h) (Or.inl ⟨by rfl, ?_⟩) ?_ ?_
     rotate_left; · (intro w'; go_simp; with_reducible rfl)
     rotate_left; · (simp only [Act.put, List.setIfInBounds_toArray, List.set_cons_zero, List.set_cons_succ, i64_w, i32_w]; rfl)
     refine pure_ (i := 7) (N := some 23) (v := ?_) (a' := ?_) #[true, true, true, true, true, true, true, true, false, false, false, false] rfl rfl (any_of HT_.out (by kernel_rfl)) (fun _ _ _ h => h) (Or.inl ⟨by rfl, ?_⟩) ?_ ?_
     rotate_left; · (intro w'; go_simp; with_reducible rfl)
     rotate_left; · (simp only [Act.put, List.setIfInBounds_toArray, List.set_cons_zero, List.set_cons_succ, i64_w, i32_w]; rfl)
     refine pure_ (i := 8) (N := some 24) (v := ?_) (a' := ?_) #[true, true, true, true, true, true, true, true, true, false, false, false] rfl rfl (any_of HT_.out (by kernel_rfl)) (fun _ _ _ h => h) (Or.inl ⟨by rfl, ?_⟩) ?_ ?_
     rotate_left; · (intro w'; go_simp; with_reducible rfl)
     rotate_left; · (simp only [Act.put, List.setIfInBounds_toArray, List.set_cons_zero, List.set_cons_succ, i64_w, i32_w]; rfl)
     refine one_ (i := 9) (N := some 7) #[true, true, true, true, true, true, true, true, true, true, false, false] rfl rfl (one_of HT_.out (by kernel_rfl)) (by decide) (fun K hK => ?_)
     refine box_step ?hg (N := 7) ?hd (cs := #[.bool false, .int .i64 0]) (t := 24) ?hr ?_; (case hd => rfl); (case hg => rfl); (case hr => first | (go_simp; done) | (go_simp; rfl))
     intro gb241 hg w20 hbox hb
     have BK241 := Aside0.mk (hbox)
     have GW241 := geb hg HB rfl
     have GE241 := geb hg HB rfl
     have NB232_241 := nbl hg BK232 rfl
     have NB241_232 := nbr hg BK232 rfl
     have NB233_241 := nbl hg BK233 rfl
     have NB241_233 := nbr hg BK233 rfl
     replace BK232 := bb BK232 hb rfl; replace BK233 := bb BK233 hb rfl; replace HB := hst HB hb rfl
     clear hb hbox hg
     refine hK.out _ _ ⟨bc BK232 0 rfl, bc BK232 1 rfl, bc BK233 0 rfl, bc BK233 1 rfl⟩ (fun hHeld => ?_)
     clear hK K
     refine norm_ (a' := ?_) ?_ ?_
     rotate_left; · (show Act.put _ (some 7) _ = _; simp only [Act.put, List.setIfInBounds_toArray, List.set_cons_zero, List.set_cons_succ, i64_w, i32_w]; rfl)
     exact norm_ (by simp only [putAll, Act.put, List.setIfInBounds_toArray, List.set_cons_zero, List.set_cons_succ]) (hCont (gb241) _ ⟨hHeld, BK232.out, BK233.out, BK241.out, GW241.out, GE241.out, NB232_241.out, NB241_232.out, NB233_241.out, NB241_233.out, (by repeat (first | (with_reducible first | exact HB.out | apply below_alloc | apply pw_below_drewN | apply below_drew1 | refine below_set ?_ GE232.out | refine below_set ?_ GE233.out | refine below_set ?_ GE241.out) | exact HB.out))⟩)
    ·
     skip
     refine box_step ?hg (N := 7) ?hd (cs := #[.bool false, .int .i64 0]) (t := 24) ?hr ?_; (case hd => rfl); (case hg => rfl); (case hr => first | (go_simp; done) | (go_simp; rfl))
     intro gb241 hg w19 hbox hb
     have BK241 := Aside0.mk (hbox)
     have GW241 := geb hg HB rfl
     have GE241 := geb hg HB rfl
     have NB232_241 := nbl hg BK232 rfl
     have NB241_232 := nbr hg BK232 rfl
     have NB233_241 := nbl hg BK233 rfl
     have NB241_233 := nbr hg BK233 rfl
     replace BK232 := bb BK232 hb rfl; replace BK233 := bb BK233 hb rfl; replace HB := hst HB hb rfl
     clear hb hbox hg
     refine hK.out _ _ ⟨bc BK232 0 rfl, bc BK232 1 rfl, bc BK233 0 rfl, bc BK233 1 rfl⟩ (fun hHeld => ?_)
     clear hK K
     refine norm_ (a' := ?_) ?_ ?_
     rotate_left; · (show Act.put _ (some 7) _ = _; simp only [Act.put, List.setIfInBounds_toArray, List.set_cons_zero, List.set_cons_succ, i64_w, i32_w]; rfl)
     refine one_ (i := 5) (N := some 22) #[true, true, true, true, true, true, false, false, false, true, false, false] rfl rfl (one_of HT_.out (by kernel_rfl)) (by decide) (fun K hK => ?_)
     refine goes_ Try.func27 (by kernel_rfl) rfl #[.int .i64 a0, .agg #[.bool t234, .int .i64 t235], .agg #[.bool t236, .int .i64 t237]] (by rfl) rfl rfl (mapq rfl) ?_
     with_reducible refine (known_Two.calls k a0 t234 t235 t236 t237 t238 t239 t240 _ A6.out).mono ?_
     rintro e w20 ⟨rfl, hb⟩
     refine ⟨_, rfl, ?_⟩
     replace BK232 := bb BK232 hb rfl; replace BK233 := bb BK233 hb rfl; replace BK241 := bb BK241 hb rfl; replace HB := hst HB hb rfl
     (try clear hb)
     refine hK.out _ _ ⟨bc BK232 0 rfl, bc BK232 1 rfl, bc BK233 0 rfl, bc BK233 1 rfl⟩ (fun hHeld => ?_)
     clear hK K
     refine norm_ (a' := ?_) ?_ ?_
     rotate_left; · (show Act.put _ (some 22) _ = _; simp only [Act.put, List.setIfInBounds_toArray, List.set_cons_zero, List.set_cons_succ, i64_w, i32_w]; rfl)
     refine pure_ (i := 6) (N := some 16) (v := ?_) (a' := ?_) #[true, true, true, true, true, true, true, false, false, true, false, false] rfl rfl (any_of HT_.out (by kernel_rfl)) (fun _ _ _ h => h) (Or.inl ⟨by rfl, ?_⟩) ?_ ?_
     rotate_left; · (intro w'; go_simp; with_reducible rfl)
     rotate_left; · (simp only [Act.put, List.setIfInBounds_toArray, List.set_cons_zero, List.set_cons_succ, i64_w, i32_w]; rfl)
     refine pure_ (i := 7) (N := some 23) (v := ?_) (a' := ?_) #[true, true, true, true, true, true, true, true, false, true, false, false] rfl rfl (any_of HT_.out (by kernel_rfl)) (fun _ _ _ h => h) (Or.inl ⟨by rfl, ?_⟩) ?_ ?_
     rotate_left; · (intro w'; go_simp; with_reducible rfl)
     rotate_left; · (simp only [Act.put, List.setIfInBounds_toArray, List.set_cons_zero, List.set_cons_succ, i64_w, i32_w]; rfl)
     refine pure_ (i := 8) (N := some 24) (v := ?_) (a' := ?_) #[true, true, true, true, true, true, true, true, true, true, false, false] rfl rfl (any_of HT_.out (by kernel_rfl)) (fun _ _ _ h => h) (Or.inl ⟨by rfl, ?_⟩) ?_ ?_
     rotate_left; · (intro w'; go_simp; with_reducible rfl)
     rotate_left; · (simp only [Act.put, List.setIfInBounds_toArray, List.set_cons_zero, List.set_cons_succ, i64_w, i32_w]; rfl)
     exact norm_ (by simp only [putAll, Act.put, List.setIfInBounds_toArray, List.set_cons_zero, List.set_cons_succ]) (hCont (gb241) _ ⟨hHeld, BK232.out, BK233.out, BK241.out, GW241.out, GE241.out, NB232_241.out, NB241_232.out, NB233_241.out, NB241_233.out, (by repeat (first | (with_reducible first | exact HB.out | apply below_alloc | apply pw_below_drewN | apply below_drew1 | refine below_set ?_ GE232.out | refine below_set ?_ GE233.out | refine below_set ?_ GE241.out) | exact HB.out))⟩)
   ·
    skip
    refine box_step ?hg (N := 7) ?hd (cs := #[.bool false, .int .i64 0]) (t := 24) ?hr ?_; (case hd => rfl); (case hg => rfl); (case hr => first | (go_simp; done) | (go_simp; rfl))
    intro gb241 hg w18 hbox hb
    have BK241 := Aside0.mk (hbox)
    have GW241 := geb hg HB rfl
    have GE241 := geb hg HB rfl
    have NB232_241 := nbl hg BK232 rfl
    have NB241_232 := nbr hg BK232 rfl
    have NB233_241 := nbl hg BK233 rfl
    have NB241_233 := nbr hg BK233 rfl
    replace BK232 := bb BK232 hb rfl; replace BK233 := bb BK233 hb rfl; replace HB := hst HB hb rfl
    clear hb hbox hg
    refine hK.out _ _ ⟨bc BK232 0 rfl, bc BK232 1 rfl, bc BK233 0 rfl, bc BK233 1 rfl⟩ (fun hHeld => ?_)
    clear hK K
    refine norm_ (a' := ?_) ?_ ?_
    rotate_left; · (show Act.put _ (some 7) _ = _; simp only [Act.put, List.setIfInBounds_toArray, List.set_cons_zero, List.set_cons_succ, i64_w, i32_w]; rfl)
    refine one_ (i := 4) (N := some 21) #[true, true, true, true, true, false, false, false, false, true, false, false] rfl rfl (one_of HT_.out (by kernel_rfl)) (by decide) (fun K hK => ?_)
    refine goes_ Try.func14 (by kernel_rfl) rfl #[.agg #[.bool a2_0, .int .i64 a2_1]] (by rfl) rfl rfl (mapq rfl) ?_
    with_reducible refine (avermentlaw09_To.calls a2_0 a2_1 t236 t237 _ A5.out).mono ?_
    rintro e w19 ⟨rfl, hb⟩
    refine ⟨_, rfl, ?_⟩
    replace BK232 := bb BK232 hb rfl; replace BK233 := bb BK233 hb rfl; replace BK241 := bb BK241 hb rfl; replace HB := hst HB hb rfl
    (try clear hb)
    refine hK.out _ _ ⟨bc BK232 0 rfl, bc BK232 1 rfl, bc BK233 0 rfl, bc BK233 1 rfl⟩ (fun hHeld => ?_)
    clear hK K
    refine norm_ (a' := ?_) ?_ ?_
    rotate_left; · (show Act.put _ (some 21) _ = _; simp only [Act.put, List.setIfInBounds_toArray, List.set_cons_zero, List.set_cons_succ, i64_w, i32_w]; rfl)
    refine one_ (i := 5) (N := some 22) #[true, true, true, true, true, true, false, false, false, true, false, false] rfl rfl (one_of HT_.out (by kernel_rfl)) (by decide) (fun K hK => ?_)
    refine goes_ Try.func27 (by kernel_rfl) rfl #[.int .i64 a0, .agg #[.bool t234, .int .i64 t235], .agg #[.bool t236, .int .i64 t237]] (by rfl) rfl rfl (mapq rfl) ?_
    with_reducible refine (known_Two.calls k a0 t234 t235 t236 t237 t238 t239 t240 _ A6.out).mono ?_
    rintro e w20 ⟨rfl, hb⟩
    refine ⟨_, rfl, ?_⟩
    replace BK232 := bb BK232 hb rfl; replace BK233 := bb BK233 hb rfl; replace BK241 := bb BK241 hb rfl; replace HB := hst HB hb rfl
    (try clear hb)
    refine hK.out _ _ ⟨bc BK232 0 rfl, bc BK232 1 rfl, bc BK233 0 rfl, bc BK233 1 rfl⟩ (fun hHeld => ?_)
    clear hK K
    refine norm_ (a' := ?_) ?_ ?_
    rotate_left; · (show Act.put _ (some 22) _ = _; simp only [Act.put, List.setIfInBounds_toArray, List.set_cons_zero, List.set_cons_succ, i64_w, i32_w]; rfl)
    refine pure_ (i := 6) (N := some 16) (v := ?_) (a' := ?_) #[true, true, true, true, true, true, true, false, false, true, false, false] rfl rfl (any_of HT_.out (by kernel_rfl)) (fun _ _ _ h => h) (Or.inl ⟨by rfl, ?_⟩) ?_ ?_
    rotate_left; · (intro w'; go_simp; with_reducible rfl)
    rotate_left; · (simp only [Act.put, List.setIfInBounds_toArray, List.set_cons_zero, List.set_cons_succ, i64_w, i32_w]; rfl)
    refine pure_ (i := 7) (N := some 23) (v := ?_) (a' := ?_) #[true, true, true, true, true, true, true, true, false, true, false, false] rfl rfl (any_of HT_.out (by kernel_rfl)) (fun _ _ _ h => h) (Or.inl ⟨by rfl, ?_⟩) ?_ ?_
    rotate_left; · (intro w'; go_simp; with_reducible rfl)
    rotate_left; · (simp only [Act.put, List.setIfInBounds_toArray, List.set_cons_zero, List.set_cons_succ, i64_w, i32_w]; rfl)
    refine pure_ (i := 8) (N := some 24) (v := ?_) (a' := ?_) #[true, true, true, true, true, true, true, true, true, true, false, false] rfl rfl (any_of HT_.out (by kernel_rfl)) (fun _ _ _ h => h) (Or.inl ⟨by rfl, ?_⟩) ?_ ?_
    rotate_left; · (intro w'; go_simp; with_reducible rfl)
    rotate_left; · (simp only [Act.put, List.setIfInBounds_toArray, List.set_cons_zero, List.set_cons_succ, i64_w, i32_w]; rfl)
    exact norm_ (by simp only [putAll, Act.put, List.setIfInBounds_toArray, List.set_cons_zero, List.set_cons_succ]) (hCont (gb241) _ ⟨hHeld, BK232.out, BK233.out, BK241.out, GW241.out, GE241.out, NB232_241.out, NB241_232.out, NB233_241.out, NB241_233.out, (by repeat (first | (with_reducible first | exact HB.out | apply below_alloc | apply pw_below_drewN | apply below_drew1 | refine below_set ?_ GE232.out | refine below_set ?_ GE233.out | refine below_set ?_ GE241.out) | exact HB.out))⟩)
  ·
   skip
   refine box_step ?hg (N := 7) ?hd (cs := #[.bool false, .int .i64 0]) (t := 24) ?hr ?_; (case hd => rfl); (case hg => rfl); (case hr => first | (go_simp; done) | (go_simp; rfl))
   intro gb241 hg w17 hbox hb
   have BK241 := Aside0.mk (hbox)
   have GW241 := geb hg HB rfl
   have GE241 := geb hg HB rfl
   have NB232_241 := nbl hg BK232 rfl
   have NB241_232 := nbr hg BK232 rfl
   have NB233_241 := nbl hg BK233 rfl
   have NB241_233 := nbr hg BK233 rfl
   replace BK232 := bb BK232 hb rfl; replace BK233 := bb BK233 hb rfl; replace HB := hst HB hb rfl
   clear hb hbox hg
   refine hK.out _ _ ⟨bc BK232 0 rfl, bc BK232 1 rfl, bc BK233 0 rfl, bc BK233 1 rfl⟩ (fun hHeld => ?_)
   clear hK K
   refine norm_ (a' := ?_) ?_ ?_
   rotate_left; · (show Act.put _ (some 7) _ = _; simp only [Act.put, List.setIfInBounds_toArray, List.set_cons_zero, List.set_cons_succ, i64_w, i32_w]; rfl)
   refine one_ (i := 2) (N := some 19) #[true, true, true, true, false, false, false, false, false, true, false, false] rfl rfl (one_of HT_.out (by kernel_rfl)) (by decide) (fun K hK => ?_)
   refine goes_ Try.func14 (by kernel_rfl) rfl #[.agg #[.bool a1_0, .int .i64 a1_1]] (by rfl) rfl rfl (mapq rfl) ?_
   with_reducible refine (avermentlaw09_To.calls a1_0 a1_1 t234 t235 _ A4.out).mono ?_
   rintro e w18 ⟨rfl, hb⟩
   refine ⟨_, rfl, ?_⟩
   replace BK232 := bb BK232 hb rfl; replace BK233 := bb BK233 hb rfl; replace BK241 := bb BK241 hb rfl; replace HB := hst HB hb rfl
   (try clear hb)
   refine hK.out _ _ ⟨bc BK232 0 rfl, bc BK232 1 rfl, bc BK233 0 rfl, bc BK233 1 rfl⟩ (fun hHeld => ?_)
   clear hK K
   refine norm_ (a' := ?_) ?_ ?_
   rotate_left; · (show Act.put _ (some 19) _ = _; simp only [Act.put, List.setIfInBounds_toArray, List.set_cons_zero, List.set_cons_succ, i64_w, i32_w]; rfl)
   refine one_ (i := 4) (N := some 21) #[true, true, true, true, true, false, false, false, false, true, false, false] rfl rfl (one_of HT_.out (by kernel_rfl)) (by decide) (fun K hK => ?_)
   refine goes_ Try.func14 (by kernel_rfl) rfl #[.agg #[.bool a2_0, .int .i64 a2_1]] (by rfl) rfl rfl (mapq rfl) ?_
   with_reducible refine (avermentlaw09_To.calls a2_0 a2_1 t236 t237 _ A5.out).mono ?_
   rintro e w19 ⟨rfl, hb⟩
   refine ⟨_, rfl, ?_⟩
   replace BK232 := bb BK232 hb rfl; replace BK233 := bb BK233 hb rfl; replace BK241 := bb BK241 hb rfl; replace HB := hst HB hb rfl
   (try clear hb)
   refine hK.out _ _ ⟨bc BK232 0 rfl, bc BK232 1 rfl, bc BK233 0 rfl, bc BK233 1 rfl⟩ (fun hHeld => ?_)
   clear hK K
   refine norm_ (a' := ?_) ?_ ?_
   rotate_left; · (show Act.put _ (some 21) _ = _; simp only [Act.put, List.setIfInBounds_toArray, List.set_cons_zero, List.set_cons_succ, i64_w, i32_w]; rfl)
   refine one_ (i := 5) (N := some 22) #[true, true, true, true, true, true, false, false, false, true, false, false] rfl rfl (one_of HT_.out (by kernel_rfl)) (by decide) (fun K hK => ?_)
   refine goes_ Try.func27 (by kernel_rfl) rfl #[.int .i64 a0, .agg #[.bool t234, .int .i64 t235], .agg #[.bool t236, .int .i64 t237]] (by rfl) rfl rfl (mapq rfl) ?_
   with_reducible refine (known_Two.calls k a0 t234 t235 t236 t237 t238 t239 t240 _ A6.out).mono ?_
   rintro e w20 ⟨rfl, hb⟩
   refine ⟨_, rfl, ?_⟩
   replace BK232 := bb BK232 hb rfl; replace BK233 := bb BK233 hb rfl; replace BK241 := bb BK241 hb rfl; replace HB := hst HB hb rfl
   (try clear hb)
   refine hK.out _ _ ⟨bc BK232 0 rfl, bc BK232 1 rfl, bc BK233 0 rfl, bc BK233 1 rfl⟩ (fun hHeld => ?_)
   clear hK K
   refine norm_ (a' := ?_) ?_ ?_
   rotate_left; · (show Act.put _ (some 22) _ = _; simp only [Act.put, List.setIfInBounds_toArray, List.set_cons_zero, List.set_cons_succ, i64_w, i32_w]; rfl)
   refine pure_ (i := 6) (N := some 16) (v := ?_) (a' := ?_) #[true, true, true, true, true, true, true, false, false, true, false, false] rfl rfl (any_of HT_.out (by kernel_rfl)) (fun _ _ _ h => h) (Or.inl ⟨by rfl, ?_⟩) ?_ ?_
   rotate_left; · (intro w'; go_simp; with_reducible rfl)
   rotate_left; · (simp only [Act.put, List.setIfInBounds_toArray, List.set_cons_zero, List.set_cons_succ, i64_w, i32_w]; rfl)
   refine pure_ (i := 7) (N := some 23) (v := ?_) (a' := ?_) #[true, true, true, true, true, true, true, true, false, true, false, false] rfl rfl (any_of HT_.out (by kernel_rfl)) (fun _ _ _ h => h) (Or.inl ⟨by rfl, ?_⟩) ?_ ?_
   rotate_left; · (intro w'; go_simp; with_reducible rfl)
   rotate_left; · (simp only [Act.put, List.setIfInBounds_toArray, List.set_cons_zero, List.set_cons_succ, i64_w, i32_w]; rfl)
   refine pure_ (i := 8) (N := some 24) (v := ?_) (a' := ?_) #[true, true, true, true, true, true, true, true, true, true, false, false] rfl rfl (any_of HT_.out (by kernel_rfl)) (fun _ _ _ h => h) (Or.inl ⟨by rfl, ?_⟩) ?_ ?_
   rotate_left; · (intro w'; go_simp; with_reducible rfl)
   rotate_left; · (simp only [Act.put, List.setIfInBounds_toArray, List.set_cons_zero, List.set_cons_succ, i64_w, i32_w]; rfl)
   exact norm_ (by simp only [putAll, Act.put, List.setIfInBounds_toArray, List.set_cons_zero, List.set_cons_succ]) (hCont (gb241) _ ⟨hHeld, BK232.out, BK233.out, BK241.out, GW241.out, GE241.out, NB232_241.out, NB241_232.out, NB233_241.out, NB241_233.out, (by repeat (first | (with_reducible first | exact HB.out | apply below_alloc | apply pw_below_drewN | apply below_drew1 | refine below_set ?_ GE232.out | refine below_set ?_ GE233.out | refine below_set ?_ GE241.out) | exact HB.out))⟩)
 rintro gb241 w21 ⟨hS_, h0_, h1_, h2_, h3_, h4_, h5_, h6_, h7_, h8_, h9_⟩
 have n0_ : Aside0 (w21.heap[gb232]? = some (.cells #[.bool a1_0, .int .i64 a1_1] 23 (0, 0))) := ⟨h0_⟩
 have n1_ : Aside0 (w21.heap[gb233]? = some (.cells #[.bool a2_0, .int .i64 a2_1] 23 (0, 0))) := ⟨h1_⟩
 have n2_ : Aside0 (w21.heap[gb241]? = some (.cells #[.bool false, .int .i64 0] 24 (0, 0))) := ⟨h2_⟩
 have n3_ : Aside0 (w.heap.size ≤ gb241) := ⟨h3_⟩
 have n4_ : Aside0 (w.heap.size ≤ gb241) := ⟨h4_⟩
 have n5_ : Aside0 (gb232 ≠ gb241) := ⟨h5_⟩
 have n6_ : Aside0 (gb241 ≠ gb232) := ⟨h6_⟩
 have n7_ : Aside0 (gb233 ≠ gb241) := ⟨h7_⟩
 have n8_ : Aside0 (gb241 ≠ gb233) := ⟨h8_⟩
 have n9_ : Aside0 (Below w.heap.size w w21) := ⟨h9_⟩
 clear BK232
 clear BK233
 clear HB
 clear h0_ h1_ h2_ h3_ h4_ h5_ h6_ h7_ h8_ h9_
 have BK232 := n0_
 have BK233 := n1_
 have BK241 := n2_
 have GW241 := n3_
 have GE241 := n4_
 have NB232_241 := n5_
 have NB241_232 := n6_
 have NB233_241 := n7_
 have NB241_233 := n8_
 have HB := n9_
 clear n0_ n1_ n2_ n3_ n4_ n5_ n6_ n7_ n8_ n9_
 have hHeld : w21.cell? ⟨gb232, 0, none⟩ = some (.bool a1_0) ∧ w21.cell? ⟨gb232, 1, none⟩ = some (.int .i64 a1_1) ∧ w21.cell? ⟨gb233, 0, none⟩ = some (.bool a2_0) ∧ w21.cell? ⟨gb233, 1, none⟩ = some (.int .i64 a2_1) := hS_
 refine norm_ (a' := ?_) ?_ ?_
 rotate_left
 ·
  simp only [putAll, Act.put, List.setIfInBounds_toArray, List.set_cons_zero, List.set_cons_succ]
  rfl
 refine one_ (i := 10) (N := none) #[true, true, true, true, true, true, true, true, true, true, true, false] rfl rfl (one_of HT_.out (by kernel_rfl)) (by decide) (fun K hK => ?_)
 have hs22 : w21.cell? ⟨gb241, 0, none⟩ = some (.bool false) := bc BK241 0 rfl
 have hfs22 := blk_frozen BK241.out 0
 have hns22_0 := NB232_241.out
 have hns22_1 := NB233_241.out
 have hms22_0 := NB241_232.out
 have hms22_1 := NB241_233.out
 have hs23 : w21.cell? ⟨gb241, 1, none⟩ = some (.int .i64 0) := bc BK241 1 rfl
 have hfs23 := blk_frozen BK241.out 1
 have hns23_0 := NB232_241.out
 have hns23_1 := NB233_241.out
 have hms23_0 := NB241_232.out
 have hms23_1 := NB241_233.out
 refine skip_ (w1 := ?_) (by rfl) rfl ?_ ?_
 rotate_left
 ·
  go_simp
  rfl
 refine hK.out _ _ ⟨((cell_far (p := ⟨gb241, _, none⟩) NB232_241.out _).trans (((cell_far (p := ⟨gb241, _, none⟩) NB232_241.out _).trans (hHeld.1)))), ((cell_far (p := ⟨gb241, _, none⟩) NB232_241.out _).trans (((cell_far (p := ⟨gb241, _, none⟩) NB232_241.out _).trans (hHeld.2.1)))), ((cell_far (p := ⟨gb241, _, none⟩) NB233_241.out _).trans (((cell_far (p := ⟨gb241, _, none⟩) NB233_241.out _).trans (hHeld.2.2.1)))), ((cell_far (p := ⟨gb241, _, none⟩) NB233_241.out _).trans (((cell_far (p := ⟨gb241, _, none⟩) NB233_241.out _).trans (hHeld.2.2.2))))⟩ (fun hHeld => ?_)
 clear hK K
 refine pure_ (i := 11) (N := some 8) (v := ?_) (a' := ?_) #[true, true, true, true, true, true, true, true, true, true, true, true] rfl rfl (any_of HT_.out (by kernel_rfl)) (fun _ _ _ h => h) (Or.inl ⟨by rfl, ?_⟩) ?_ ?_
 rotate_left; · (intro w'; go_simp; with_reducible rfl)
 rotate_left; · (simp only [Act.put, List.setIfInBounds_toArray, List.set_cons_zero, List.set_cons_succ, i64_w, i32_w]; rfl)
 refine done_ (done_of HT_.out (by kernel_rfl)) ?_
 try go_wp2
 have n0_ : Aside0 (((w21.setCell ⟨gb241, 0, none⟩ (.bool t238)).setCell ⟨gb241, 1, none⟩ (.int .i64 t239)).heap[gb232]? = some (.cells #[.bool a1_0, .int .i64 a1_1] 23 (0, 0))) := ⟨by (with_reducible repeat (first | refine blk_drewN ?_ _ | refine blk_drew ?_ | refine blk_alloc ?_ _)); refine blk_far ?_ NB232_241.out _; (with_reducible repeat (first | refine blk_drewN ?_ _ | refine blk_drew ?_ | refine blk_alloc ?_ _)); refine blk_far ?_ NB232_241.out _; (with_reducible repeat (first | refine blk_drewN ?_ _ | refine blk_drew ?_ | refine blk_alloc ?_ _)); exact BK232.out⟩
 have n1_ : Aside0 (((w21.setCell ⟨gb241, 0, none⟩ (.bool t238)).setCell ⟨gb241, 1, none⟩ (.int .i64 t239)).heap[gb233]? = some (.cells #[.bool a2_0, .int .i64 a2_1] 23 (0, 0))) := ⟨by (with_reducible repeat (first | refine blk_drewN ?_ _ | refine blk_drew ?_ | refine blk_alloc ?_ _)); refine blk_far ?_ NB233_241.out _; (with_reducible repeat (first | refine blk_drewN ?_ _ | refine blk_drew ?_ | refine blk_alloc ?_ _)); refine blk_far ?_ NB233_241.out _; (with_reducible repeat (first | refine blk_drewN ?_ _ | refine blk_drew ?_ | refine blk_alloc ?_ _)); exact BK233.out⟩
 have n2_ : Aside0 (((w21.setCell ⟨gb241, 0, none⟩ (.bool t238)).setCell ⟨gb241, 1, none⟩ (.int .i64 t239)).heap[gb241]? = some (.cells #[.bool t238, .int .i64 t239] 24 (0, 0))) := ⟨by (with_reducible repeat (first | refine blk_drewN ?_ _ | refine blk_drew ?_ | refine blk_alloc ?_ _)); refine blk_put (cs := #[.bool t238, .int .i64 0]) ?_ 1 _ rfl; (with_reducible repeat (first | refine blk_drewN ?_ _ | refine blk_drew ?_ | refine blk_alloc ?_ _)); refine blk_put (cs := #[.bool false, .int .i64 0]) ?_ 0 _ rfl; (with_reducible repeat (first | refine blk_drewN ?_ _ | refine blk_drew ?_ | refine blk_alloc ?_ _)); exact BK241.out⟩
 have n3_ : Aside0 (Below w.heap.size w ((w21.setCell ⟨gb241, 0, none⟩ (.bool t238)).setCell ⟨gb241, 1, none⟩ (.int .i64 t239))) := ⟨by repeat (first | (with_reducible first | exact HB.out | apply below_alloc | apply pw_below_drewN | apply below_drew1 | refine below_set ?_ GE232.out | refine below_set ?_ GE233.out | refine below_set ?_ GE241.out) | exact HB.out)⟩
 (try clear BK232)
 (try clear BK233)
 (try clear BK241)
 (try clear HB)
 generalize ((w21.setCell ⟨gb241, 0, none⟩ (.bool t238)).setCell ⟨gb241, 1, none⟩ (.int .i64 t239)) = w24 at n0_ n1_ n2_ n3_ ⊢
 have BK232 := n0_
 have BK233 := n1_
 have BK241 := n2_
 have HB := n3_
 clear n0_ n1_ n2_ n3_
 replace BK232 := Aside0.mk (blk_drew BK232.out); replace BK233 := Aside0.mk (blk_drew BK233.out); replace BK241 := Aside0.mk (blk_drew BK241.out); replace HB := Aside0.mk (below_drew1 HB.out)
 refine start_ (n := 11) (S := fun w' => w'.cell? ⟨gb233, 0, none⟩ = some (.bool a2_0) ∧ w'.cell? ⟨gb233, 1, none⟩ = some (.int .i64 a2_1)) (ds := []) #[false, false, false, false, false, false, false, false, false, false, false] (by kernel_rfl) rfl rfl ⟨bc BK233 0 rfl, bc BK233 1 rfl⟩ (fun hHeld => ?_); refine with_tabW avermentlaw09_KnownRises.tab2 avermentlaw09_KnownRises.bits2 (fun HT_ HW_ => ?_)
 generalize w24.drew = w25 at BK232 BK233 BK241 HB hHeld ⊢
 refine pure_ (i := 0) (N := some 26) (v := ?_) (a' := ?_) #[true, false, false, false, false, false, false, false, false, false, false] rfl rfl (any_of HT_.out (by kernel_rfl)) (fun _ _ _ h => h) (Or.inl ⟨by rfl, ?_⟩) ?_ ?_
 rotate_left; · (intro w'; go_simp; with_reducible rfl)
 rotate_left; · (simp only [Act.put, List.setIfInBounds_toArray, List.set_cons_zero, List.set_cons_succ, i64_w, i32_w]; rfl)
 refine take_ (i := 2) (N := some 28) (v := ?_) (a' := ?_) #[true, false, true, false, false, false, false, false, false, false, false] rfl rfl (take_ofW HT_.out HW_.out (by kernel_rfl)) (fun _ _ _ h => h) (Or.inl ⟨by rfl, ?_⟩) hHeld ?_ ?_
 rotate_left
 ·
  rintro w' ⟨s0, s1⟩
  go_simp
  with_reducible rfl
 rotate_left
 ·
  simp only [Act.put, List.setIfInBounds_toArray, List.set_cons_zero, List.set_cons_succ, i64_w, i32_w]
  rfl
 refine join_ (σ := Nat) 2 #[true, true, true, true, true, true, true, true, true, false, false] (fun s_ => [(27, .agg #[.bool t242, .int .i64 t243]), (29, .agg #[.bool t244, .int .i64 t245]), (30, .tuple #[.agg #[.bool t246, .int .i64 t247], .bool t248]), (9, .pointer (some ⟨s_, 0, none⟩)), (25, .tuple #[.agg #[.bool t246, .int .i64 t247], .bool t248]), (31, .agg #[.bool t246, .int .i64 t247]), (32, .bool t248)]) (fun s_ w' => (w'.cell? ⟨gb233, 0, none⟩ = some (.bool a2_0) ∧ w'.cell? ⟨gb233, 1, none⟩ = some (.int .i64 a2_1)) ∧ (w'.heap[gb232]? = some (.cells #[.bool a1_0, .int .i64 a1_1] 23 (0, 0))) ∧ (w'.heap[gb233]? = some (.cells #[.bool a2_0, .int .i64 a2_1] 23 (0, 0))) ∧ (w'.heap[gb241]? = some (.cells #[.bool t238, .int .i64 t239] 24 (0, 0))) ∧ (w'.heap[s_]? = some (.cells #[.bool false, .int .i64 0] 24 (0, 0))) ∧ (w.heap.size ≤ s_) ∧ (w.heap.size ≤ s_) ∧ (gb232 ≠ s_) ∧ (s_ ≠ gb232) ∧ (gb233 ≠ s_) ∧ (s_ ≠ gb233) ∧ (gb241 ≠ s_) ∧ (s_ ≠ gb241) ∧ (Below w.heap.size w w')) ?_ ?_
 rotate_left
 ·
  intro hCont
  refine two_ (i := 1) (j := 8) (Ni := some 27) (Nj := some 9) #[true, true, true, false, false, false, false, false, false, false, false] #[true, false, true, false, false, false, false, false, true, false, false] rfl rfl rfl rfl (two_of HT_.out (by kernel_rfl)) (by decide) (by decide) (fun K hK => ?_) (fun K hK => ?_)
  ·
   skip
   refine goes_ Try.func20 (by kernel_rfl) rfl #[] (by rfl) rfl rfl (mapq rfl) ?_
   with_reducible refine (known_Any.calls  t242 t243 _ A7.out).mono ?_
   rintro e w26 ⟨rfl, hb⟩
   refine ⟨_, rfl, ?_⟩
   replace BK232 := bb BK232 hb rfl; replace BK233 := bb BK233 hb rfl; replace BK241 := bb BK241 hb rfl; replace HB := hst HB hb rfl
   (try clear hb)
   refine hK.out _ _ ⟨bc BK233 0 rfl, bc BK233 1 rfl⟩ (fun hHeld => ?_)
   clear hK K
   refine norm_ (a' := ?_) ?_ ?_
   rotate_left; · (show Act.put _ (some 27) _ = _; simp only [Act.put, List.setIfInBounds_toArray, List.set_cons_zero, List.set_cons_succ, i64_w, i32_w]; rfl)
   refine two_ (i := 3) (j := 8) (Ni := some 29) (Nj := some 9) #[true, true, true, true, false, false, false, false, false, false, false] #[true, true, true, false, false, false, false, false, true, false, false] rfl rfl rfl rfl (two_of HT_.out (by kernel_rfl)) (by decide) (by decide) (fun K hK => ?_) (fun K hK => ?_)
   ·
    skip
    refine goes_ Try.func14 (by kernel_rfl) rfl #[.agg #[.bool a2_0, .int .i64 a2_1]] (by rfl) rfl rfl (mapq rfl) ?_
    with_reducible refine (avermentlaw09_To.calls a2_0 a2_1 t244 t245 _ A8.out).mono ?_
    rintro e w27 ⟨rfl, hb⟩
    refine ⟨_, rfl, ?_⟩
    replace BK232 := bb BK232 hb rfl; replace BK233 := bb BK233 hb rfl; replace BK241 := bb BK241 hb rfl; replace HB := hst HB hb rfl
    (try clear hb)
    refine hK.out _ _ ⟨bc BK233 0 rfl, bc BK233 1 rfl⟩ (fun hHeld => ?_)
    clear hK K
    refine norm_ (a' := ?_) ?_ ?_
    rotate_left; · (show Act.put _ (some 29) _ = _; simp only [Act.put, List.setIfInBounds_toArray, List.set_cons_zero, List.set_cons_succ, i64_w, i32_w]; rfl)
    refine two_ (i := 4) (j := 8) (Ni := some 30) (Nj := some 9) #[true, true, true, true, true, false, false, false, false, false, false] #[true, true, true, true, false, false, false, false, true, false, false] rfl rfl rfl rfl (two_of HT_.out (by kernel_rfl)) (by decide) (by decide) (fun K hK => ?_) (fun K hK => ?_)
    ·
     skip
     refine goes_ Try.func27 (by kernel_rfl) rfl #[.int .i64 a0, .agg #[.bool t242, .int .i64 t243], .agg #[.bool t244, .int .i64 t245]] (by rfl) rfl rfl (mapq rfl) ?_
     with_reducible refine (known_Two.calls k a0 t242 t243 t244 t245 t246 t247 t248 _ A9.out).mono ?_
     rintro e w28 ⟨rfl, hb⟩
     refine ⟨_, rfl, ?_⟩
     replace BK232 := bb BK232 hb rfl; replace BK233 := bb BK233 hb rfl; replace BK241 := bb BK241 hb rfl; replace HB := hst HB hb rfl
     (try clear hb)
     refine hK.out _ _ ⟨bc BK233 0 rfl, bc BK233 1 rfl⟩ (fun hHeld => ?_)
     clear hK K
     refine norm_ (a' := ?_) ?_ ?_
     rotate_left; · (show Act.put _ (some 30) _ = _; simp only [Act.put, List.setIfInBounds_toArray, List.set_cons_zero, List.set_cons_succ, i64_w, i32_w]; rfl)
     refine pure_ (i := 5) (N := some 25) (v := ?_) (a' := ?_) #[true, true, true, true, true, true, false, false, false, false, false] rfl rfl (any_of HT_.out (by kernel_rfl)) (fun _ _ _ h => h) (Or.inl ⟨by rfl, ?_⟩) ?_ ?_
     rotate_left; · (intro w'; go_simp; with_reducible rfl)
     rotate_left; · (simp only [Act.put, List.setIfInBounds_toArray, List.set_cons_zero, List.set_cons_succ, i64_w, i32_w]; rfl)
     refine pure_ (i := 6) (N := some 31) (v := ?_) (a' := ?_) #[true, true, true, true, true, true, true, false, false, false, false] rfl rfl (any_of HT_.out (by kernel_rfl)) (fun _ _ _ h => h) (Or.inl ⟨by rfl, ?_⟩) ?_ ?_
     rotate_left; · (intro w'; go_simp; with_reducible rfl)
     rotate_left; · (simp only [Act.put, List.setIfInBounds_toArray, List.set_cons_zero, List.set_cons_succ, i64_w, i32_w]; rfl)
     refine pure_ (i := 7) (N := some 32) (v := ?_) (a' := ?_) #[true, true, true, true, true, true, true, true, false, false, false] rfl rfl (any_of HT_.out (by kernel_rfl)) (fun _ _ _ h => h) (Or.inl ⟨by rfl, ?_⟩) ?_ ?_
     rotate_left; · (intro w'; go_simp; with_reducible rfl)
     rotate_left; · (simp only [Act.put, List.setIfInBounds_toArray, List.set_cons_zero, List.set_cons_succ, i64_w, i32_w]; rfl)
     refine one_ (i := 8) (N := some 9) #[true, true, true, true, true, true, true, true, true, false, false] rfl rfl (one_of HT_.out (by kernel_rfl)) (by decide) (fun K hK => ?_)
     refine box_step ?hg (N := 9) ?hd (cs := #[.bool false, .int .i64 0]) (t := 24) ?hr ?_; (case hd => rfl); (case hg => rfl); (case hr => first | (go_simp; done) | (go_simp; rfl))
     intro gb249 hg w29 hbox hb
     have BK249 := Aside0.mk (hbox)
     have GW249 := geb hg HB rfl
     have GE249 := geb hg HB rfl
     have NB232_249 := nbl hg BK232 rfl
     have NB249_232 := nbr hg BK232 rfl
     have NB233_249 := nbl hg BK233 rfl
     have NB249_233 := nbr hg BK233 rfl
     have NB241_249 := nbl hg BK241 rfl
     have NB249_241 := nbr hg BK241 rfl
     replace BK232 := bb BK232 hb rfl; replace BK233 := bb BK233 hb rfl; replace BK241 := bb BK241 hb rfl; replace HB := hst HB hb rfl
     clear hb hbox hg
     refine hK.out _ _ ⟨bc BK233 0 rfl, bc BK233 1 rfl⟩ (fun hHeld => ?_)
     clear hK K
     refine norm_ (a' := ?_) ?_ ?_
     rotate_left; · (show Act.put _ (some 9) _ = _; simp only [Act.put, List.setIfInBounds_toArray, List.set_cons_zero, List.set_cons_succ, i64_w, i32_w]; rfl)
     exact norm_ (by simp only [putAll, Act.put, List.setIfInBounds_toArray, List.set_cons_zero, List.set_cons_succ]) (hCont (gb249) _ ⟨hHeld, BK232.out, BK233.out, BK241.out, BK249.out, GW249.out, GE249.out, NB232_249.out, NB249_232.out, NB233_249.out, NB249_233.out, NB241_249.out, NB249_241.out, (by repeat (first | (with_reducible first | exact HB.out | apply below_alloc | apply pw_below_drewN | apply below_drew1 | refine below_set ?_ GE232.out | refine below_set ?_ GE233.out | refine below_set ?_ GE241.out | refine below_set ?_ GE249.out) | exact HB.out))⟩)
    ·
     skip
     refine box_step ?hg (N := 9) ?hd (cs := #[.bool false, .int .i64 0]) (t := 24) ?hr ?_; (case hd => rfl); (case hg => rfl); (case hr => first | (go_simp; done) | (go_simp; rfl))
     intro gb249 hg w28 hbox hb
     have BK249 := Aside0.mk (hbox)
     have GW249 := geb hg HB rfl
     have GE249 := geb hg HB rfl
     have NB232_249 := nbl hg BK232 rfl
     have NB249_232 := nbr hg BK232 rfl
     have NB233_249 := nbl hg BK233 rfl
     have NB249_233 := nbr hg BK233 rfl
     have NB241_249 := nbl hg BK241 rfl
     have NB249_241 := nbr hg BK241 rfl
     replace BK232 := bb BK232 hb rfl; replace BK233 := bb BK233 hb rfl; replace BK241 := bb BK241 hb rfl; replace HB := hst HB hb rfl
     clear hb hbox hg
     refine hK.out _ _ ⟨bc BK233 0 rfl, bc BK233 1 rfl⟩ (fun hHeld => ?_)
     clear hK K
     refine norm_ (a' := ?_) ?_ ?_
     rotate_left; · (show Act.put _ (some 9) _ = _; simp only [Act.put, List.setIfInBounds_toArray, List.set_cons_zero, List.set_cons_succ, i64_w, i32_w]; rfl)
     refine one_ (i := 4) (N := some 30) #[true, true, true, true, true, false, false, false, true, false, false] rfl rfl (one_of HT_.out (by kernel_rfl)) (by decide) (fun K hK => ?_)
     refine goes_ Try.func27 (by kernel_rfl) rfl #[.int .i64 a0, .agg #[.bool t242, .int .i64 t243], .agg #[.bool t244, .int .i64 t245]] (by rfl) rfl rfl (mapq rfl) ?_
     with_reducible refine (known_Two.calls k a0 t242 t243 t244 t245 t246 t247 t248 _ A9.out).mono ?_
     rintro e w29 ⟨rfl, hb⟩
     refine ⟨_, rfl, ?_⟩
     replace BK232 := bb BK232 hb rfl; replace BK233 := bb BK233 hb rfl; replace BK241 := bb BK241 hb rfl; replace BK249 := bb BK249 hb rfl; replace HB := hst HB hb rfl
     (try clear hb)
     refine hK.out _ _ ⟨bc BK233 0 rfl, bc BK233 1 rfl⟩ (fun hHeld => ?_)
     clear hK K
     refine norm_ (a' := ?_) ?_ ?_
     rotate_left; · (show Act.put _ (some 30) _ = _; simp only [Act.put, List.setIfInBounds_toArray, List.set_cons_zero, List.set_cons_succ, i64_w, i32_w]; rfl)
     refine pure_ (i := 5) (N := some 25) (v := ?_) (a' := ?_) #[true, true, true, true, true, true, false, false, true, false, false] rfl rfl (any_of HT_.out (by kernel_rfl)) (fun _ _ _ h => h) (Or.inl ⟨by rfl, ?_⟩) ?_ ?_
     rotate_left; · (intro w'; go_simp; with_reducible rfl)
     rotate_left; · (simp only [Act.put, List.setIfInBounds_toArray, List.set_cons_zero, List.set_cons_succ, i64_w, i32_w]; rfl)
     refine pure_ (i := 6) (N := some 31) (v := ?_) (a' := ?_) #[true, true, true, true, true, true, true, false, true, false, false] rfl rfl (any_of HT_.out (by kernel_rfl)) (fun _ _ _ h => h) (Or.inl ⟨by rfl, ?_⟩) ?_ ?_
     rotate_left; · (intro w'; go_simp; with_reducible rfl)
     rotate_left; · (simp only [Act.put, List.setIfInBounds_toArray, List.set_cons_zero, List.set_cons_succ, i64_w, i32_w]; rfl)
     refine pure_ (i := 7) (N := some 32) (v := ?_) (a' := ?_) #[true, true, true, true, true, true, true, true, true, false, false] rfl rfl (any_of HT_.out (by kernel_rfl)) (fun _ _ _ h => h) (Or.inl ⟨by rfl, ?_⟩) ?_ ?_
     rotate_left; · (intro w'; go_simp; with_reducible rfl)
     rotate_left; · (simp only [Act.put, List.setIfInBounds_toArray, List.set_cons_zero, List.set_cons_succ, i64_w, i32_w]; rfl)
     exact norm_ (by simp only [putAll, Act.put, List.setIfInBounds_toArray, List.set_cons_zero, List.set_cons_succ]) (hCont (gb249) _ ⟨hHeld, BK232.out, BK233.out, BK241.out, BK249.out, GW249.out, GE249.out, NB232_249.out, NB249_232.out, NB233_249.out, NB249_233.out, NB241_249.out, NB249_241.out, (by repeat (first | (with_reducible first | exact HB.out | apply below_alloc | apply pw_below_drewN | apply below_drew1 | refine below_set ?_ GE232.out | refine below_set ?_ GE233.out | refine below_set ?_ GE241.out | refine below_set ?_ GE249.out) | exact HB.out))⟩)
   ·
    skip
    refine box_step ?hg (N := 9) ?hd (cs := #[.bool false, .int .i64 0]) (t := 24) ?hr ?_; (case hd => rfl); (case hg => rfl); (case hr => first | (go_simp; done) | (go_simp; rfl))
    intro gb249 hg w27 hbox hb
    have BK249 := Aside0.mk (hbox)
    have GW249 := geb hg HB rfl
    have GE249 := geb hg HB rfl
    have NB232_249 := nbl hg BK232 rfl
    have NB249_232 := nbr hg BK232 rfl
    have NB233_249 := nbl hg BK233 rfl
    have NB249_233 := nbr hg BK233 rfl
    have NB241_249 := nbl hg BK241 rfl
    have NB249_241 := nbr hg BK241 rfl
    replace BK232 := bb BK232 hb rfl; replace BK233 := bb BK233 hb rfl; replace BK241 := bb BK241 hb rfl; replace HB := hst HB hb rfl
    clear hb hbox hg
    refine hK.out _ _ ⟨bc BK233 0 rfl, bc BK233 1 rfl⟩ (fun hHeld => ?_)
    clear hK K
    refine norm_ (a' := ?_) ?_ ?_
    rotate_left; · (show Act.put _ (some 9) _ = _; simp only [Act.put, List.setIfInBounds_toArray, List.set_cons_zero, List.set_cons_succ, i64_w, i32_w]; rfl)
    refine one_ (i := 3) (N := some 29) #[true, true, true, true, false, false, false, false, true, false, false] rfl rfl (one_of HT_.out (by kernel_rfl)) (by decide) (fun K hK => ?_)
    refine goes_ Try.func14 (by kernel_rfl) rfl #[.agg #[.bool a2_0, .int .i64 a2_1]] (by rfl) rfl rfl (mapq rfl) ?_
    with_reducible refine (avermentlaw09_To.calls a2_0 a2_1 t244 t245 _ A8.out).mono ?_
    rintro e w28 ⟨rfl, hb⟩
    refine ⟨_, rfl, ?_⟩
    replace BK232 := bb BK232 hb rfl; replace BK233 := bb BK233 hb rfl; replace BK241 := bb BK241 hb rfl; replace BK249 := bb BK249 hb rfl; replace HB := hst HB hb rfl
    (try clear hb)
    refine hK.out _ _ ⟨bc BK233 0 rfl, bc BK233 1 rfl⟩ (fun hHeld => ?_)
    clear hK K
    refine norm_ (a' := ?_) ?_ ?_
    rotate_left; · (show Act.put _ (some 29) _ = _; simp only [Act.put, List.setIfInBounds_toArray, List.set_cons_zero, List.set_cons_succ, i64_w, i32_w]; rfl)
    refine one_ (i := 4) (N := some 30) #[true, true, true, true, true, false, false, false, true, false, false] rfl rfl (one_of HT_.out (by kernel_rfl)) (by decide) (fun K hK => ?_)
    refine goes_ Try.func27 (by kernel_rfl) rfl #[.int .i64 a0, .agg #[.bool t242, .int .i64 t243], .agg #[.bool t244, .int .i64 t245]] (by rfl) rfl rfl (mapq rfl) ?_
    with_reducible refine (known_Two.calls k a0 t242 t243 t244 t245 t246 t247 t248 _ A9.out).mono ?_
    rintro e w29 ⟨rfl, hb⟩
    refine ⟨_, rfl, ?_⟩
    replace BK232 := bb BK232 hb rfl; replace BK233 := bb BK233 hb rfl; replace BK241 := bb BK241 hb rfl; replace BK249 := bb BK249 hb rfl; replace HB := hst HB hb rfl
    (try clear hb)
    refine hK.out _ _ ⟨bc BK233 0 rfl, bc BK233 1 rfl⟩ (fun hHeld => ?_)
    clear hK K
    refine norm_ (a' := ?_) ?_ ?_
    rotate_left; · (show Act.put _ (some 30) _ = _; simp only [Act.put, List.setIfInBounds_toArray, List.set_cons_zero, List.set_cons_succ, i64_w, i32_w]; rfl)
    refine pure_ (i := 5) (N := some 25) (v := ?_) (a' := ?_) #[true, true, true, true, true, true, false, false, true, false, false] rfl rfl (any_of HT_.out (by kernel_rfl)) (fun _ _ _ h => h) (Or.inl ⟨by rfl, ?_⟩) ?_ ?_
    rotate_left; · (intro w'; go_simp; with_reducible rfl)
    rotate_left; · (simp only [Act.put, List.setIfInBounds_toArray, List.set_cons_zero, List.set_cons_succ, i64_w, i32_w]; rfl)
    refine pure_ (i := 6) (N := some 31) (v := ?_) (a' := ?_) #[true, true, true, true, true, true, true, false, true, false, false] rfl rfl (any_of HT_.out (by kernel_rfl)) (fun _ _ _ h => h) (Or.inl ⟨by rfl, ?_⟩) ?_ ?_
    rotate_left; · (intro w'; go_simp; with_reducible rfl)
    rotate_left; · (simp only [Act.put, List.setIfInBounds_toArray, List.set_cons_zero, List.set_cons_succ, i64_w, i32_w]; rfl)
    refine pure_ (i := 7) (N := some 32) (v := ?_) (a' := ?_) #[true, true, true, true, true, true, true, true, true, false, false] rfl rfl (any_of HT_.out (by kernel_rfl)) (fun _ _ _ h => h) (Or.inl ⟨by rfl, ?_⟩) ?_ ?_
    rotate_left; · (intro w'; go_simp; with_reducible rfl)
    rotate_left; · (simp only [Act.put, List.setIfInBounds_toArray, List.set_cons_zero, List.set_cons_succ, i64_w, i32_w]; rfl)
    exact norm_ (by simp only [putAll, Act.put, List.setIfInBounds_toArray, List.set_cons_zero, List.set_cons_succ]) (hCont (gb249) _ ⟨hHeld, BK232.out, BK233.out, BK241.out, BK249.out, GW249.out, GE249.out, NB232_249.out, NB249_232.out, NB233_249.out, NB249_233.out, NB241_249.out, NB249_241.out, (by repeat (first | (with_reducible first | exact HB.out | apply below_alloc | apply pw_below_drewN | apply below_drew1 | refine below_set ?_ GE232.out | refine below_set ?_ GE233.out | refine below_set ?_ GE241.out | refine below_set ?_ GE249.out) | exact HB.out))⟩)
  ·
   skip
   refine box_step ?hg (N := 9) ?hd (cs := #[.bool false, .int .i64 0]) (t := 24) ?hr ?_; (case hd => rfl); (case hg => rfl); (case hr => first | (go_simp; done) | (go_simp; rfl))
   intro gb249 hg w26 hbox hb
   have BK249 := Aside0.mk (hbox)
   have GW249 := geb hg HB rfl
   have GE249 := geb hg HB rfl
   have NB232_249 := nbl hg BK232 rfl
   have NB249_232 := nbr hg BK232 rfl
   have NB233_249 := nbl hg BK233 rfl
   have NB249_233 := nbr hg BK233 rfl
   have NB241_249 := nbl hg BK241 rfl
   have NB249_241 := nbr hg BK241 rfl
   replace BK232 := bb BK232 hb rfl; replace BK233 := bb BK233 hb rfl; replace BK241 := bb BK241 hb rfl; replace HB := hst HB hb rfl
   clear hb hbox hg
   refine hK.out _ _ ⟨bc BK233 0 rfl, bc BK233 1 rfl⟩ (fun hHeld => ?_)
   clear hK K
   refine norm_ (a' := ?_) ?_ ?_
   rotate_left; · (show Act.put _ (some 9) _ = _; simp only [Act.put, List.setIfInBounds_toArray, List.set_cons_zero, List.set_cons_succ, i64_w, i32_w]; rfl)
   refine one_ (i := 1) (N := some 27) #[true, true, true, false, false, false, false, false, true, false, false] rfl rfl (one_of HT_.out (by kernel_rfl)) (by decide) (fun K hK => ?_)
   refine goes_ Try.func20 (by kernel_rfl) rfl #[] (by rfl) rfl rfl (mapq rfl) ?_
   with_reducible refine (known_Any.calls  t242 t243 _ A7.out).mono ?_
   rintro e w27 ⟨rfl, hb⟩
   refine ⟨_, rfl, ?_⟩
   replace BK232 := bb BK232 hb rfl; replace BK233 := bb BK233 hb rfl; replace BK241 := bb BK241 hb rfl; replace BK249 := bb BK249 hb rfl; replace HB := hst HB hb rfl
   (try clear hb)
   refine hK.out _ _ ⟨bc BK233 0 rfl, bc BK233 1 rfl⟩ (fun hHeld => ?_)
   clear hK K
   refine norm_ (a' := ?_) ?_ ?_
   rotate_left; · (show Act.put _ (some 27) _ = _; simp only [Act.put, List.setIfInBounds_toArray, List.set_cons_zero, List.set_cons_succ, i64_w, i32_w]; rfl)
   refine one_ (i := 3) (N := some 29) #[true, true, true, true, false, false, false, false, true, false, false] rfl rfl (one_of HT_.out (by kernel_rfl)) (by decide) (fun K hK => ?_)
   refine goes_ Try.func14 (by kernel_rfl) rfl #[.agg #[.bool a2_0, .int .i64 a2_1]] (by rfl) rfl rfl (mapq rfl) ?_
   with_reducible refine (avermentlaw09_To.calls a2_0 a2_1 t244 t245 _ A8.out).mono ?_
   rintro e w28 ⟨rfl, hb⟩
   refine ⟨_, rfl, ?_⟩
   replace BK232 := bb BK232 hb rfl; replace BK233 := bb BK233 hb rfl; replace BK241 := bb BK241 hb rfl; replace BK249 := bb BK249 hb rfl; replace HB := hst HB hb rfl
   (try clear hb)
   refine hK.out _ _ ⟨bc BK233 0 rfl, bc BK233 1 rfl⟩ (fun hHeld => ?_)
   clear hK K
   refine norm_ (a' := ?_) ?_ ?_
   rotate_left; · (show Act.put _ (some 29) _ = _; simp only [Act.put, List.setIfInBounds_toArray, List.set_cons_zero, List.set_cons_succ, i64_w, i32_w]; rfl)
   refine one_ (i := 4) (N := some 30) #[true, true, true, true, true, false, false, false, true, false, false] rfl rfl (one_of HT_.out (by kernel_rfl)) (by decide) (fun K hK => ?_)
   refine goes_ Try.func27 (by kernel_rfl) rfl #[.int .i64 a0, .agg #[.bool t242, .int .i64 t243], .agg #[.bool t244, .int .i64 t245]] (by rfl) rfl rfl (mapq rfl) ?_
   with_reducible refine (known_Two.calls k a0 t242 t243 t244 t245 t246 t247 t248 _ A9.out).mono ?_
   rintro e w29 ⟨rfl, hb⟩
   refine ⟨_, rfl, ?_⟩
   replace BK232 := bb BK232 hb rfl; replace BK233 := bb BK233 hb rfl; replace BK241 := bb BK241 hb rfl; replace BK249 := bb BK249 hb rfl; replace HB := hst HB hb rfl
   (try clear hb)
   refine hK.out _ _ ⟨bc BK233 0 rfl, bc BK233 1 rfl⟩ (fun hHeld => ?_)
   clear hK K
   refine norm_ (a' := ?_) ?_ ?_
   rotate_left; · (show Act.put _ (some 30) _ = _; simp only [Act.put, List.setIfInBounds_toArray, List.set_cons_zero, List.set_cons_succ, i64_w, i32_w]; rfl)
   refine pure_ (i := 5) (N := some 25) (v := ?_) (a' := ?_) #[true, true, true, true, true, true, false, false, true, false, false] rfl rfl (any_of HT_.out (by kernel_rfl)) (fun _ _ _ h => h) (Or.inl ⟨by rfl, ?_⟩) ?_ ?_
   rotate_left; · (intro w'; go_simp; with_reducible rfl)
   rotate_left; · (simp only [Act.put, List.setIfInBounds_toArray, List.set_cons_zero, List.set_cons_succ, i64_w, i32_w]; rfl)
   refine pure_ (i := 6) (N := some 31) (v := ?_) (a' := ?_) #[true, true, true, true, true, true, true, false, true, false, false] rfl rfl (any_of HT_.out (by kernel_rfl)) (fun _ _ _ h => h) (Or.inl ⟨by rfl, ?_⟩) ?_ ?_
   rotate_left; · (intro w'; go_simp; with_reducible rfl)
   rotate_left; · (simp only [Act.put, List.setIfInBounds_toArray, List.set_cons_zero, List.set_cons_succ, i64_w, i32_w]; rfl)
   refine pure_ (i := 7) (N := some 32) (v := ?_) (a' := ?_) #[true, true, true, true, true, true, true, true, true, false, false] rfl rfl (any_of HT_.out (by kernel_rfl)) (fun _ _ _ h => h) (Or.inl ⟨by rfl, ?_⟩) ?_ ?_
   rotate_left; · (intro w'; go_simp; with_reducible rfl)
   rotate_left; · (simp only [Act.put, List.setIfInBounds_toArray, List.set_cons_zero, List.set_cons_succ, i64_w, i32_w]; rfl)
   exact norm_ (by simp only [putAll, Act.put, List.setIfInBounds_toArray, List.set_cons_zero, List.set_cons_succ]) (hCont (gb249) _ ⟨hHeld, BK232.out, BK233.out, BK241.out, BK249.out, GW249.out, GE249.out, NB232_249.out, NB249_232.out, NB233_249.out, NB249_233.out, NB241_249.out, NB249_241.out, (by repeat (first | (with_reducible first | exact HB.out | apply below_alloc | apply pw_below_drewN | apply below_drew1 | refine below_set ?_ GE232.out | refine below_set ?_ GE233.out | refine below_set ?_ GE241.out | refine below_set ?_ GE249.out) | exact HB.out))⟩)
 rintro gb249 w30 ⟨hS_, h0_, h1_, h2_, h3_, h4_, h5_, h6_, h7_, h8_, h9_, h10_, h11_, h12_⟩
 have n0_ : Aside0 (w30.heap[gb232]? = some (.cells #[.bool a1_0, .int .i64 a1_1] 23 (0, 0))) := ⟨h0_⟩
 have n1_ : Aside0 (w30.heap[gb233]? = some (.cells #[.bool a2_0, .int .i64 a2_1] 23 (0, 0))) := ⟨h1_⟩
 have n2_ : Aside0 (w30.heap[gb241]? = some (.cells #[.bool t238, .int .i64 t239] 24 (0, 0))) := ⟨h2_⟩
 have n3_ : Aside0 (w30.heap[gb249]? = some (.cells #[.bool false, .int .i64 0] 24 (0, 0))) := ⟨h3_⟩
 have n4_ : Aside0 (w.heap.size ≤ gb249) := ⟨h4_⟩
 have n5_ : Aside0 (w.heap.size ≤ gb249) := ⟨h5_⟩
 have n6_ : Aside0 (gb232 ≠ gb249) := ⟨h6_⟩
 have n7_ : Aside0 (gb249 ≠ gb232) := ⟨h7_⟩
 have n8_ : Aside0 (gb233 ≠ gb249) := ⟨h8_⟩
 have n9_ : Aside0 (gb249 ≠ gb233) := ⟨h9_⟩
 have n10_ : Aside0 (gb241 ≠ gb249) := ⟨h10_⟩
 have n11_ : Aside0 (gb249 ≠ gb241) := ⟨h11_⟩
 have n12_ : Aside0 (Below w.heap.size w w30) := ⟨h12_⟩
 clear BK232
 clear BK233
 clear BK241
 clear HB
 clear h0_ h1_ h2_ h3_ h4_ h5_ h6_ h7_ h8_ h9_ h10_ h11_ h12_
 have BK232 := n0_
 have BK233 := n1_
 have BK241 := n2_
 have BK249 := n3_
 have GW249 := n4_
 have GE249 := n5_
 have NB232_249 := n6_
 have NB249_232 := n7_
 have NB233_249 := n8_
 have NB249_233 := n9_
 have NB241_249 := n10_
 have NB249_241 := n11_
 have HB := n12_
 clear n0_ n1_ n2_ n3_ n4_ n5_ n6_ n7_ n8_ n9_ n10_ n11_ n12_
 have hHeld : w30.cell? ⟨gb233, 0, none⟩ = some (.bool a2_0) ∧ w30.cell? ⟨gb233, 1, none⟩ = some (.int .i64 a2_1) := hS_
 refine norm_ (a' := ?_) ?_ ?_
 rotate_left
 ·
  simp only [putAll, Act.put, List.setIfInBounds_toArray, List.set_cons_zero, List.set_cons_succ]
  rfl
 refine one_ (i := 9) (N := none) #[true, true, true, true, true, true, true, true, true, true, false] rfl rfl (one_of HT_.out (by kernel_rfl)) (by decide) (fun K hK => ?_)
 have hs31 : w30.cell? ⟨gb249, 0, none⟩ = some (.bool false) := bc BK249 0 rfl
 have hfs31 := blk_frozen BK249.out 0
 have hns31_0 := NB232_249.out
 have hns31_1 := NB233_249.out
 have hns31_2 := NB241_249.out
 have hms31_0 := NB249_232.out
 have hms31_1 := NB249_233.out
 have hms31_2 := NB249_241.out
 have hs32 : w30.cell? ⟨gb249, 1, none⟩ = some (.int .i64 0) := bc BK249 1 rfl
 have hfs32 := blk_frozen BK249.out 1
 have hns32_0 := NB232_249.out
 have hns32_1 := NB233_249.out
 have hns32_2 := NB241_249.out
 have hms32_0 := NB249_232.out
 have hms32_1 := NB249_233.out
 have hms32_2 := NB249_241.out
 refine skip_ (w1 := ?_) (by rfl) rfl ?_ ?_
 rotate_left
 ·
  go_simp
  rfl
 refine hK.out _ _ ⟨((cell_far (p := ⟨gb249, _, none⟩) NB233_249.out _).trans (((cell_far (p := ⟨gb249, _, none⟩) NB233_249.out _).trans (hHeld.1)))), ((cell_far (p := ⟨gb249, _, none⟩) NB233_249.out _).trans (((cell_far (p := ⟨gb249, _, none⟩) NB233_249.out _).trans (hHeld.2))))⟩ (fun hHeld => ?_)
 clear hK K
 refine pure_ (i := 10) (N := some 10) (v := ?_) (a' := ?_) #[true, true, true, true, true, true, true, true, true, true, true] rfl rfl (any_of HT_.out (by kernel_rfl)) (fun _ _ _ h => h) (Or.inl ⟨by rfl, ?_⟩) ?_ ?_
 rotate_left; · (intro w'; go_simp; with_reducible rfl)
 rotate_left; · (simp only [Act.put, List.setIfInBounds_toArray, List.set_cons_zero, List.set_cons_succ, i64_w, i32_w]; rfl)
 refine done_ (done_of HT_.out (by kernel_rfl)) ?_
 have hnb33 := NB232_233.out
 have hnc33 := NB233_232.out
 have hnb34 := NB232_241.out
 have hnc34 := NB241_232.out
 have hnb35 := NB232_249.out
 have hnc35 := NB249_232.out
 have hcz36_0 : w30.cell? ⟨gb232, 0, none⟩ = some (.bool a1_0) := bc BK232 0 rfl
 have hcz36_1 : w30.cell? ⟨gb232, 1, none⟩ = some (.int .i64 a1_1) := bc BK232 1 rfl
 have hfz36_0 := blk_frozen BK232.out 0
 have hfz36_1 := blk_frozen BK232.out 1
 go_upto_region 4 with (first | ((with_reducible refine gate_callee (f := 14) rfl ?_); refine goesL_ (some 36) rfl rfl Try.func14 (by kernel_rfl) rfl #[.agg #[.bool a1_0, .int .i64 a1_1]] rfl (mapq rfl) ?_; (with_reducible refine (avermentlaw09_To.calls a1_0 a1_1 t250 t251 _ A10.out).mono ?_); rintro e w37 ⟨rfl, hb⟩; refine ⟨_, rfl, ?_⟩; replace BK232 := Aside0.mk (blk_below (g := gb232) (o := .cells #[.bool a1_0, .int .i64 a1_1] 23 (0, 0)) (by (with_reducible repeat (first | refine blk_drewN ?_ _ | refine blk_drew ?_ | refine blk_alloc ?_ _)); refine blk_far ?_ NB232_249.out _; (with_reducible repeat (first | refine blk_drewN ?_ _ | refine blk_drew ?_ | refine blk_alloc ?_ _)); refine blk_far ?_ NB232_249.out _; (with_reducible repeat (first | refine blk_drewN ?_ _ | refine blk_drew ?_ | refine blk_alloc ?_ _)); exact BK232.out) hb); replace BK233 := Aside0.mk (blk_below (g := gb233) (o := .cells #[.bool a2_0, .int .i64 a2_1] 23 (0, 0)) (by (with_reducible repeat (first | refine blk_drewN ?_ _ | refine blk_drew ?_ | refine blk_alloc ?_ _)); refine blk_far ?_ NB233_249.out _; (with_reducible repeat (first | refine blk_drewN ?_ _ | refine blk_drew ?_ | refine blk_alloc ?_ _)); refine blk_far ?_ NB233_249.out _; (with_reducible repeat (first | refine blk_drewN ?_ _ | refine blk_drew ?_ | refine blk_alloc ?_ _)); exact BK233.out) hb); replace BK241 := Aside0.mk (blk_below (g := gb241) (o := .cells #[.bool t238, .int .i64 t239] 24 (0, 0)) (by (with_reducible repeat (first | refine blk_drewN ?_ _ | refine blk_drew ?_ | refine blk_alloc ?_ _)); refine blk_far ?_ NB241_249.out _; (with_reducible repeat (first | refine blk_drewN ?_ _ | refine blk_drew ?_ | refine blk_alloc ?_ _)); refine blk_far ?_ NB241_249.out _; (with_reducible repeat (first | refine blk_drewN ?_ _ | refine blk_drew ?_ | refine blk_alloc ?_ _)); exact BK241.out) hb); replace BK249 := Aside0.mk (blk_below (g := gb249) (o := .cells #[.bool t246, .int .i64 t247] 24 (0, 0)) (by (with_reducible repeat (first | refine blk_drewN ?_ _ | refine blk_drew ?_ | refine blk_alloc ?_ _)); refine blk_put (cs := #[.bool t246, .int .i64 0]) ?_ 1 _ rfl; (with_reducible repeat (first | refine blk_drewN ?_ _ | refine blk_drew ?_ | refine blk_alloc ?_ _)); refine blk_put (cs := #[.bool false, .int .i64 0]) ?_ 0 _ rfl; (with_reducible repeat (first | refine blk_drewN ?_ _ | refine blk_drew ?_ | refine blk_alloc ?_ _)); exact BK249.out) hb); replace HB := Aside0.mk (below_step (by repeat (first | (with_reducible first | exact HB.out | apply below_alloc | apply pw_below_drewN | apply below_drew1 | refine below_set ?_ GE232.out | refine below_set ?_ GE233.out | refine below_set ?_ GE241.out | refine below_set ?_ GE249.out) | exact HB.out)) hb); (try clear hb)) | ((with_reducible refine gate_callee (f := 20) rfl ?_); refine goesL_ (some 37) rfl rfl Try.func20 (by kernel_rfl) rfl #[] rfl (mapq rfl) ?_; (with_reducible refine (known_Any.calls  t252 t253 _ A11.out).mono ?_); rintro e w38 ⟨rfl, hb⟩; refine ⟨_, rfl, ?_⟩; replace BK232 := bb BK232 hb rfl; replace BK233 := bb BK233 hb rfl; replace BK241 := bb BK241 hb rfl; replace BK249 := bb BK249 hb rfl; replace HB := hst HB hb rfl; (try clear hb)) | ((with_reducible refine gate_callee (f := 27) rfl ?_); refine goesL_ (some 38) rfl rfl Try.func27 (by kernel_rfl) rfl #[.int .i64 a0, .agg #[.bool t250, .int .i64 t251], .agg #[.bool t252, .int .i64 t253]] rfl (mapq rfl) ?_; (with_reducible refine (known_Two.calls k a0 t250 t251 t252 t253 t254 t255 t256 _ A12.out).mono ?_); rintro e w39 ⟨rfl, hb⟩; refine ⟨_, rfl, ?_⟩; replace BK232 := bb BK232 hb rfl; replace BK233 := bb BK233 hb rfl; replace BK241 := bb BK241 hb rfl; replace BK249 := bb BK249 hb rfl; replace HB := hst HB hb rfl; (try clear hb)) | ((with_reducible refine gate_dst (N := 11) rfl ?_); refine box_event ?hg (N := 11) ?hd (cs := #[.bool false, .int .i64 0]) (t := 24) ?hr ?_; (case hd => rfl); (case hg => rfl); (case hr => first | (go_simp; done) | (go_simp; rfl)); intro gb257 hg w40 hbox hb; have BK257 := Aside0.mk (hbox); have GW257 := geb hg HB rfl; have GE257 := geb hg HB rfl; have NB232_257 := nbl hg BK232 rfl; have NB257_232 := nbr hg BK232 rfl; have NB233_257 := nbl hg BK233 rfl; have NB257_233 := nbr hg BK233 rfl; have NB241_257 := nbl hg BK241 rfl; have NB257_241 := nbr hg BK241 rfl; have NB249_257 := nbl hg BK249 rfl; have NB257_249 := nbr hg BK249 rfl; replace BK232 := bb BK232 hb rfl; replace BK233 := bb BK233 hb rfl; replace BK241 := bb BK241 hb rfl; replace BK249 := bb BK249 hb rfl; replace HB := hst HB hb rfl; clear hb hbox hg; have hnb41 := NB257_232.out; have hnc41 := NB232_257.out; have hnb42 := NB257_233.out; have hnc42 := NB233_257.out; have hnb43 := NB257_241.out; have hnc43 := NB241_257.out; have hnb44 := NB257_249.out; have hnc44 := NB249_257.out; have hcz45_0 : w40.cell? ⟨gb257, 0, none⟩ = some (.bool false) := (blk_cell BK257.out 0).trans rfl; have hcz45_1 : w40.cell? ⟨gb257, 1, none⟩ = some (.int .i64 0) := (blk_cell BK257.out 1).trans rfl; have hfz45_0 := blk_frozen BK257.out 0; have hfz45_1 := blk_frozen BK257.out 1))
 (try simp only [Act.put, List.setIfInBounds_toArray, List.set_cons_zero, List.set_cons_succ])
 go_cut [68] (fun v68 wc => ∃ (kq : Nat) (x68_12 : Bool), v68 = .bool x68_12 ∧ Aside0 (avermentlaw09_KnownRises.j0 kq x68_12 a1_0 a1_1 a2_0 a2_1 = some r) ∧ Aside0 (kq ≤ k) ∧ Aside0 (wc.heap[gb232]? = some (.cells #[.bool a1_0, .int .i64 a1_1] 23 (0, 0))) ∧ Aside0 (wc.heap[gb233]? = some (.cells #[.bool a2_0, .int .i64 a2_1] 23 (0, 0))) ∧ Aside0 (wc.heap[gb241]? = some (.cells #[.bool t238, .int .i64 t239] 24 (0, 0))) ∧ Aside0 (wc.heap[gb249]? = some (.cells #[.bool t246, .int .i64 t247] 24 (0, 0))) ∧ Aside0 (wc.heap[gb257]? = some (.cells #[.bool t254, .int .i64 t255] 24 (0, 0))) ∧ Aside0 (Below w.heap.size w wc))
 case first =>
  have H := HC13.out
  clear HC13
  replace H := Option.bind_eq_some_iff.mp H
  obtain ⟨t258, A460, H⟩ := H
  (try dsimp only at H)
  have A46 := Aside0.mk A460
  clear A460
  by_cases c47 : t258 = true
  ·
   subst c47
   rw [if_pos rfl] at H
   by_cases c48 : t240 = true
   ·
    subst c48
    rw [if_pos rfl] at H
    by_cases c49 : t248 = true
    ·
     subst c49
     rw [if_pos rfl] at H
     replace H := Option.bind_eq_some_iff.mp H
     obtain ⟨t259, A500, H⟩ := H
     (try dsimp only at H)
     have A50 := Aside0.mk A500
     clear A500
     by_cases c51 : t259 = true
     ·
      subst c51
      rw [if_pos rfl] at H
      by_cases c52 : t256 = true
      ·
       subst c52
       rw [if_pos rfl] at H
       replace H := Option.bind_eq_some_iff.mp H
       obtain ⟨t260, A530, H⟩ := H
       (try dsimp only at H)
       have A53 := Aside0.mk A530
       clear A530
       have H' := Aside0.mk H
       clear H
       go_wp2_with (first | ((with_reducible refine gate_callee (f := 16) rfl ?_); refine goesL_ (some 41) rfl rfl Try.func16 (by kernel_rfl) rfl #[] rfl (mapq rfl) ?_; (with_reducible refine (avermentlaw09_told.calls k  true _ A46.out).mono ?_); rintro e w54 ⟨rfl, hb⟩; refine ⟨_, rfl, ?_⟩; replace BK232 := Aside0.mk (blk_below (g := gb232) (o := .cells #[.bool a1_0, .int .i64 a1_1] 23 (0, 0)) (by (with_reducible repeat (first | refine blk_drewN ?_ _ | refine blk_drew ?_ | refine blk_alloc ?_ _)); refine blk_far ?_ NB232_257.out _; (with_reducible repeat (first | refine blk_drewN ?_ _ | refine blk_drew ?_ | refine blk_alloc ?_ _)); refine blk_far ?_ NB232_257.out _; (with_reducible repeat (first | refine blk_drewN ?_ _ | refine blk_drew ?_ | refine blk_alloc ?_ _)); exact BK232.out) hb); replace BK233 := Aside0.mk (blk_below (g := gb233) (o := .cells #[.bool a2_0, .int .i64 a2_1] 23 (0, 0)) (by (with_reducible repeat (first | refine blk_drewN ?_ _ | refine blk_drew ?_ | refine blk_alloc ?_ _)); refine blk_far ?_ NB233_257.out _; (with_reducible repeat (first | refine blk_drewN ?_ _ | refine blk_drew ?_ | refine blk_alloc ?_ _)); refine blk_far ?_ NB233_257.out _; (with_reducible repeat (first | refine blk_drewN ?_ _ | refine blk_drew ?_ | refine blk_alloc ?_ _)); exact BK233.out) hb); replace BK241 := Aside0.mk (blk_below (g := gb241) (o := .cells #[.bool t238, .int .i64 t239] 24 (0, 0)) (by (with_reducible repeat (first | refine blk_drewN ?_ _ | refine blk_drew ?_ | refine blk_alloc ?_ _)); refine blk_far ?_ NB241_257.out _; (with_reducible repeat (first | refine blk_drewN ?_ _ | refine blk_drew ?_ | refine blk_alloc ?_ _)); refine blk_far ?_ NB241_257.out _; (with_reducible repeat (first | refine blk_drewN ?_ _ | refine blk_drew ?_ | refine blk_alloc ?_ _)); exact BK241.out) hb); replace BK249 := Aside0.mk (blk_below (g := gb249) (o := .cells #[.bool t246, .int .i64 t247] 24 (0, 0)) (by (with_reducible repeat (first | refine blk_drewN ?_ _ | refine blk_drew ?_ | refine blk_alloc ?_ _)); refine blk_far ?_ NB249_257.out _; (with_reducible repeat (first | refine blk_drewN ?_ _ | refine blk_drew ?_ | refine blk_alloc ?_ _)); refine blk_far ?_ NB249_257.out _; (with_reducible repeat (first | refine blk_drewN ?_ _ | refine blk_drew ?_ | refine blk_alloc ?_ _)); exact BK249.out) hb); replace BK257 := Aside0.mk (blk_below (g := gb257) (o := .cells #[.bool t254, .int .i64 t255] 24 (0, 0)) (by (with_reducible repeat (first | refine blk_drewN ?_ _ | refine blk_drew ?_ | refine blk_alloc ?_ _)); refine blk_put (cs := #[.bool t254, .int .i64 0]) ?_ 1 _ rfl; (with_reducible repeat (first | refine blk_drewN ?_ _ | refine blk_drew ?_ | refine blk_alloc ?_ _)); refine blk_put (cs := #[.bool false, .int .i64 0]) ?_ 0 _ rfl; (with_reducible repeat (first | refine blk_drewN ?_ _ | refine blk_drew ?_ | refine blk_alloc ?_ _)); exact BK257.out) hb); replace HB := Aside0.mk (below_step (by repeat (first | (with_reducible first | exact HB.out | apply below_alloc | apply pw_below_drewN | apply below_drew1 | refine below_set ?_ GE232.out | refine below_set ?_ GE233.out | refine below_set ?_ GE241.out | refine below_set ?_ GE249.out | refine below_set ?_ GE257.out) | exact HB.out)) hb); (try clear hb); have hnb55 := NB241_232.out; have hnc55 := NB232_241.out; have hnb56 := NB241_233.out; have hnc56 := NB233_241.out; have hnb57 := NB241_249.out; have hnc57 := NB249_241.out; have hnb58 := NB241_257.out; have hnc58 := NB257_241.out; have hcz59_0 : w54.cell? ⟨gb241, 0, none⟩ = some (.bool t238) := (blk_cell BK241.out 0).trans rfl; have hcz59_1 : w54.cell? ⟨gb241, 1, none⟩ = some (.int .i64 t239) := (blk_cell BK241.out 1).trans rfl; have hfz59_0 := blk_frozen BK241.out 0; have hfz59_1 := blk_frozen BK241.out 1; have hnb60 := NB249_232.out; have hnc60 := NB232_249.out; have hnb61 := NB249_233.out; have hnc61 := NB233_249.out; have hnb62 := NB249_257.out; have hnc62 := NB257_249.out; have hcz63_0 : w54.cell? ⟨gb249, 0, none⟩ = some (.bool t246) := (blk_cell BK249.out 0).trans rfl; have hcz63_1 : w54.cell? ⟨gb249, 1, none⟩ = some (.int .i64 t247) := (blk_cell BK249.out 1).trans rfl; have hfz63_0 := blk_frozen BK249.out 0; have hfz63_1 := blk_frozen BK249.out 1) | (go_at_call 25; (with_reducible refine (known_Within.calls t238 t239 t246 t247 true _ A50.out).mono ?_); rintro e w64 ⟨rfl, hb⟩; replace BK232 := bb BK232 hb rfl; replace BK233 := bb BK233 hb rfl; replace BK241 := bb BK241 hb rfl; replace BK249 := bb BK249 hb rfl; replace BK257 := bb BK257 hb rfl; replace HB := hst HB hb rfl; (try clear hb); have hcz65_0 : w64.cell? ⟨gb241, 0, none⟩ = some (.bool t238) := (blk_cell BK241.out 0).trans rfl; have hcz65_1 : w64.cell? ⟨gb241, 1, none⟩ = some (.int .i64 t239) := (blk_cell BK241.out 1).trans rfl; have hfz65_0 := blk_frozen BK241.out 0; have hfz65_1 := blk_frozen BK241.out 1; have hnb66 := NB257_232.out; have hnc66 := NB232_257.out; have hnb67 := NB257_233.out; have hnc67 := NB233_257.out; have hcz68_0 : w64.cell? ⟨gb257, 0, none⟩ = some (.bool t254) := (blk_cell BK257.out 0).trans rfl; have hcz68_1 : w64.cell? ⟨gb257, 1, none⟩ = some (.int .i64 t255) := (blk_cell BK257.out 1).trans rfl; have hfz68_0 := blk_frozen BK257.out 0; have hfz68_1 := blk_frozen BK257.out 1) | (go_at_call 25; (with_reducible refine (known_Within.calls t238 t239 t254 t255 t260 _ A53.out).mono ?_); rintro e w69 ⟨rfl, hb⟩; replace BK232 := bb BK232 hb rfl; replace BK233 := bb BK233 hb rfl; replace BK241 := bb BK241 hb rfl; replace BK249 := bb BK249 hb rfl; replace BK257 := bb BK257 hb rfl; replace HB := hst HB hb rfl; (try clear hb)))
       go_meet
       case rel => exact ⟨_, (!t260), (by first | rfl | (simp; done) | (simp [*]; done)), H', ⟨by first | omega | exact Nat.le_refl _⟩, ⟨by (with_reducible repeat (first | refine blk_drewN ?_ _ | refine blk_drew ?_ | refine blk_alloc ?_ _)); exact BK232.out⟩, ⟨by (with_reducible repeat (first | refine blk_drewN ?_ _ | refine blk_drew ?_ | refine blk_alloc ?_ _)); exact BK233.out⟩, ⟨by (with_reducible repeat (first | refine blk_drewN ?_ _ | refine blk_drew ?_ | refine blk_alloc ?_ _)); exact BK241.out⟩, ⟨by (with_reducible repeat (first | refine blk_drewN ?_ _ | refine blk_drew ?_ | refine blk_alloc ?_ _)); exact BK249.out⟩, ⟨by (with_reducible repeat (first | refine blk_drewN ?_ _ | refine blk_drew ?_ | refine blk_alloc ?_ _)); exact BK257.out⟩, ⟨by repeat (first | (with_reducible first | exact HB.out | apply below_alloc | apply pw_below_drewN | apply below_drew1 | refine below_set ?_ GE232.out | refine below_set ?_ GE233.out | refine below_set ?_ GE241.out | refine below_set ?_ GE249.out | refine below_set ?_ GE257.out) | exact HB.out)⟩⟩
      ·
       replace c52 := Bool.eq_false_iff.mpr c52
       subst c52
       rw [if_neg (show ¬ (false = true) by decide)] at H
       have H' := Aside0.mk H
       clear H
       go_wp2_with (first | ((with_reducible refine gate_callee (f := 16) rfl ?_); refine goesL_ (some 41) rfl rfl Try.func16 (by kernel_rfl) rfl #[] rfl (mapq rfl) ?_; (with_reducible refine (avermentlaw09_told.calls k  true _ A46.out).mono ?_); rintro e w70 ⟨rfl, hb⟩; refine ⟨_, rfl, ?_⟩; replace BK232 := Aside0.mk (blk_below (g := gb232) (o := .cells #[.bool a1_0, .int .i64 a1_1] 23 (0, 0)) (by (with_reducible repeat (first | refine blk_drewN ?_ _ | refine blk_drew ?_ | refine blk_alloc ?_ _)); refine blk_far ?_ NB232_257.out _; (with_reducible repeat (first | refine blk_drewN ?_ _ | refine blk_drew ?_ | refine blk_alloc ?_ _)); refine blk_far ?_ NB232_257.out _; (with_reducible repeat (first | refine blk_drewN ?_ _ | refine blk_drew ?_ | refine blk_alloc ?_ _)); exact BK232.out) hb); replace BK233 := Aside0.mk (blk_below (g := gb233) (o := .cells #[.bool a2_0, .int .i64 a2_1] 23 (0, 0)) (by (with_reducible repeat (first | refine blk_drewN ?_ _ | refine blk_drew ?_ | refine blk_alloc ?_ _)); refine blk_far ?_ NB233_257.out _; (with_reducible repeat (first | refine blk_drewN ?_ _ | refine blk_drew ?_ | refine blk_alloc ?_ _)); refine blk_far ?_ NB233_257.out _; (with_reducible repeat (first | refine blk_drewN ?_ _ | refine blk_drew ?_ | refine blk_alloc ?_ _)); exact BK233.out) hb); replace BK241 := Aside0.mk (blk_below (g := gb241) (o := .cells #[.bool t238, .int .i64 t239] 24 (0, 0)) (by (with_reducible repeat (first | refine blk_drewN ?_ _ | refine blk_drew ?_ | refine blk_alloc ?_ _)); refine blk_far ?_ NB241_257.out _; (with_reducible repeat (first | refine blk_drewN ?_ _ | refine blk_drew ?_ | refine blk_alloc ?_ _)); refine blk_far ?_ NB241_257.out _; (with_reducible repeat (first | refine blk_drewN ?_ _ | refine blk_drew ?_ | refine blk_alloc ?_ _)); exact BK241.out) hb); replace BK249 := Aside0.mk (blk_below (g := gb249) (o := .cells #[.bool t246, .int .i64 t247] 24 (0, 0)) (by (with_reducible repeat (first | refine blk_drewN ?_ _ | refine blk_drew ?_ | refine blk_alloc ?_ _)); refine blk_far ?_ NB249_257.out _; (with_reducible repeat (first | refine blk_drewN ?_ _ | refine blk_drew ?_ | refine blk_alloc ?_ _)); refine blk_far ?_ NB249_257.out _; (with_reducible repeat (first | refine blk_drewN ?_ _ | refine blk_drew ?_ | refine blk_alloc ?_ _)); exact BK249.out) hb); replace BK257 := Aside0.mk (blk_below (g := gb257) (o := .cells #[.bool t254, .int .i64 t255] 24 (0, 0)) (by (with_reducible repeat (first | refine blk_drewN ?_ _ | refine blk_drew ?_ | refine blk_alloc ?_ _)); refine blk_put (cs := #[.bool t254, .int .i64 0]) ?_ 1 _ rfl; (with_reducible repeat (first | refine blk_drewN ?_ _ | refine blk_drew ?_ | refine blk_alloc ?_ _)); refine blk_put (cs := #[.bool false, .int .i64 0]) ?_ 0 _ rfl; (with_reducible repeat (first | refine blk_drewN ?_ _ | refine blk_drew ?_ | refine blk_alloc ?_ _)); exact BK257.out) hb); replace HB := Aside0.mk (below_step (by repeat (first | (with_reducible first | exact HB.out | apply below_alloc | apply pw_below_drewN | apply below_drew1 | refine below_set ?_ GE232.out | refine below_set ?_ GE233.out | refine below_set ?_ GE241.out | refine below_set ?_ GE249.out | refine below_set ?_ GE257.out) | exact HB.out)) hb); (try clear hb); have hnb71 := NB241_232.out; have hnc71 := NB232_241.out; have hnb72 := NB241_233.out; have hnc72 := NB233_241.out; have hnb73 := NB241_249.out; have hnc73 := NB249_241.out; have hnb74 := NB241_257.out; have hnc74 := NB257_241.out; have hcz75_0 : w70.cell? ⟨gb241, 0, none⟩ = some (.bool t238) := (blk_cell BK241.out 0).trans rfl; have hcz75_1 : w70.cell? ⟨gb241, 1, none⟩ = some (.int .i64 t239) := (blk_cell BK241.out 1).trans rfl; have hfz75_0 := blk_frozen BK241.out 0; have hfz75_1 := blk_frozen BK241.out 1; have hnb76 := NB249_232.out; have hnc76 := NB232_249.out; have hnb77 := NB249_233.out; have hnc77 := NB233_249.out; have hnb78 := NB249_257.out; have hnc78 := NB257_249.out; have hcz79_0 : w70.cell? ⟨gb249, 0, none⟩ = some (.bool t246) := (blk_cell BK249.out 0).trans rfl; have hcz79_1 : w70.cell? ⟨gb249, 1, none⟩ = some (.int .i64 t247) := (blk_cell BK249.out 1).trans rfl; have hfz79_0 := blk_frozen BK249.out 0; have hfz79_1 := blk_frozen BK249.out 1) | (go_at_call 25; (with_reducible refine (known_Within.calls t238 t239 t246 t247 true _ A50.out).mono ?_); rintro e w80 ⟨rfl, hb⟩; replace BK232 := bb BK232 hb rfl; replace BK233 := bb BK233 hb rfl; replace BK241 := bb BK241 hb rfl; replace BK249 := bb BK249 hb rfl; replace BK257 := bb BK257 hb rfl; replace HB := hst HB hb rfl; (try clear hb)))
       go_meet
       case rel => exact ⟨_, (true), (by first | rfl | (simp; done) | (simp [*]; done)), H', ⟨by first | omega | exact Nat.le_refl _⟩, ⟨by (with_reducible repeat (first | refine blk_drewN ?_ _ | refine blk_drew ?_ | refine blk_alloc ?_ _)); exact BK232.out⟩, ⟨by (with_reducible repeat (first | refine blk_drewN ?_ _ | refine blk_drew ?_ | refine blk_alloc ?_ _)); exact BK233.out⟩, ⟨by (with_reducible repeat (first | refine blk_drewN ?_ _ | refine blk_drew ?_ | refine blk_alloc ?_ _)); exact BK241.out⟩, ⟨by (with_reducible repeat (first | refine blk_drewN ?_ _ | refine blk_drew ?_ | refine blk_alloc ?_ _)); exact BK249.out⟩, ⟨by (with_reducible repeat (first | refine blk_drewN ?_ _ | refine blk_drew ?_ | refine blk_alloc ?_ _)); exact BK257.out⟩, ⟨by repeat (first | (with_reducible first | exact HB.out | apply below_alloc | apply pw_below_drewN | apply below_drew1 | refine below_set ?_ GE232.out | refine below_set ?_ GE233.out | refine below_set ?_ GE241.out | refine below_set ?_ GE249.out | refine below_set ?_ GE257.out) | exact HB.out)⟩⟩
     ·
      replace c51 := Bool.eq_false_iff.mpr c51
      subst c51
      rw [if_neg (show ¬ (false = true) by decide)] at H
      have H' := Aside0.mk H
      clear H
      go_wp2_with (first | ((with_reducible refine gate_callee (f := 16) rfl ?_); refine goesL_ (some 41) rfl rfl Try.func16 (by kernel_rfl) rfl #[] rfl (mapq rfl) ?_; (with_reducible refine (avermentlaw09_told.calls k  true _ A46.out).mono ?_); rintro e w81 ⟨rfl, hb⟩; refine ⟨_, rfl, ?_⟩; replace BK232 := Aside0.mk (blk_below (g := gb232) (o := .cells #[.bool a1_0, .int .i64 a1_1] 23 (0, 0)) (by (with_reducible repeat (first | refine blk_drewN ?_ _ | refine blk_drew ?_ | refine blk_alloc ?_ _)); refine blk_far ?_ NB232_257.out _; (with_reducible repeat (first | refine blk_drewN ?_ _ | refine blk_drew ?_ | refine blk_alloc ?_ _)); refine blk_far ?_ NB232_257.out _; (with_reducible repeat (first | refine blk_drewN ?_ _ | refine blk_drew ?_ | refine blk_alloc ?_ _)); exact BK232.out) hb); replace BK233 := Aside0.mk (blk_below (g := gb233) (o := .cells #[.bool a2_0, .int .i64 a2_1] 23 (0, 0)) (by (with_reducible repeat (first | refine blk_drewN ?_ _ | refine blk_drew ?_ | refine blk_alloc ?_ _)); refine blk_far ?_ NB233_257.out _; (with_reducible repeat (first | refine blk_drewN ?_ _ | refine blk_drew ?_ | refine blk_alloc ?_ _)); refine blk_far ?_ NB233_257.out _; (with_reducible repeat (first | refine blk_drewN ?_ _ | refine blk_drew ?_ | refine blk_alloc ?_ _)); exact BK233.out) hb); replace BK241 := Aside0.mk (blk_below (g := gb241) (o := .cells #[.bool t238, .int .i64 t239] 24 (0, 0)) (by (with_reducible repeat (first | refine blk_drewN ?_ _ | refine blk_drew ?_ | refine blk_alloc ?_ _)); refine blk_far ?_ NB241_257.out _; (with_reducible repeat (first | refine blk_drewN ?_ _ | refine blk_drew ?_ | refine blk_alloc ?_ _)); refine blk_far ?_ NB241_257.out _; (with_reducible repeat (first | refine blk_drewN ?_ _ | refine blk_drew ?_ | refine blk_alloc ?_ _)); exact BK241.out) hb); replace BK249 := Aside0.mk (blk_below (g := gb249) (o := .cells #[.bool t246, .int .i64 t247] 24 (0, 0)) (by (with_reducible repeat (first | refine blk_drewN ?_ _ | refine blk_drew ?_ | refine blk_alloc ?_ _)); refine blk_far ?_ NB249_257.out _; (with_reducible repeat (first | refine blk_drewN ?_ _ | refine blk_drew ?_ | refine blk_alloc ?_ _)); refine blk_far ?_ NB249_257.out _; (with_reducible repeat (first | refine blk_drewN ?_ _ | refine blk_drew ?_ | refine blk_alloc ?_ _)); exact BK249.out) hb); replace BK257 := Aside0.mk (blk_below (g := gb257) (o := .cells #[.bool t254, .int .i64 t255] 24 (0, 0)) (by (with_reducible repeat (first | refine blk_drewN ?_ _ | refine blk_drew ?_ | refine blk_alloc ?_ _)); refine blk_put (cs := #[.bool t254, .int .i64 0]) ?_ 1 _ rfl; (with_reducible repeat (first | refine blk_drewN ?_ _ | refine blk_drew ?_ | refine blk_alloc ?_ _)); refine blk_put (cs := #[.bool false, .int .i64 0]) ?_ 0 _ rfl; (with_reducible repeat (first | refine blk_drewN ?_ _ | refine blk_drew ?_ | refine blk_alloc ?_ _)); exact BK257.out) hb); replace HB := Aside0.mk (below_step (by repeat (first | (with_reducible first | exact HB.out | apply below_alloc | apply pw_below_drewN | apply below_drew1 | refine below_set ?_ GE232.out | refine below_set ?_ GE233.out | refine below_set ?_ GE241.out | refine below_set ?_ GE249.out | refine below_set ?_ GE257.out) | exact HB.out)) hb); (try clear hb); have hnb82 := NB241_232.out; have hnc82 := NB232_241.out; have hnb83 := NB241_233.out; have hnc83 := NB233_241.out; have hnb84 := NB241_249.out; have hnc84 := NB249_241.out; have hnb85 := NB241_257.out; have hnc85 := NB257_241.out; have hcz86_0 : w81.cell? ⟨gb241, 0, none⟩ = some (.bool t238) := (blk_cell BK241.out 0).trans rfl; have hcz86_1 : w81.cell? ⟨gb241, 1, none⟩ = some (.int .i64 t239) := (blk_cell BK241.out 1).trans rfl; have hfz86_0 := blk_frozen BK241.out 0; have hfz86_1 := blk_frozen BK241.out 1; have hnb87 := NB249_232.out; have hnc87 := NB232_249.out; have hnb88 := NB249_233.out; have hnc88 := NB233_249.out; have hnb89 := NB249_257.out; have hnc89 := NB257_249.out; have hcz90_0 : w81.cell? ⟨gb249, 0, none⟩ = some (.bool t246) := (blk_cell BK249.out 0).trans rfl; have hcz90_1 : w81.cell? ⟨gb249, 1, none⟩ = some (.int .i64 t247) := (blk_cell BK249.out 1).trans rfl; have hfz90_0 := blk_frozen BK249.out 0; have hfz90_1 := blk_frozen BK249.out 1) | (go_at_call 25; (with_reducible refine (known_Within.calls t238 t239 t246 t247 false _ A50.out).mono ?_); rintro e w91 ⟨rfl, hb⟩; replace BK232 := bb BK232 hb rfl; replace BK233 := bb BK233 hb rfl; replace BK241 := bb BK241 hb rfl; replace BK249 := bb BK249 hb rfl; replace BK257 := bb BK257 hb rfl; replace HB := hst HB hb rfl; (try clear hb)))
      go_meet
      case rel => exact ⟨_, (true), (by first | rfl | (simp; done) | (simp [*]; done)), H', ⟨by first | omega | exact Nat.le_refl _⟩, ⟨by (with_reducible repeat (first | refine blk_drewN ?_ _ | refine blk_drew ?_ | refine blk_alloc ?_ _)); exact BK232.out⟩, ⟨by (with_reducible repeat (first | refine blk_drewN ?_ _ | refine blk_drew ?_ | refine blk_alloc ?_ _)); exact BK233.out⟩, ⟨by (with_reducible repeat (first | refine blk_drewN ?_ _ | refine blk_drew ?_ | refine blk_alloc ?_ _)); exact BK241.out⟩, ⟨by (with_reducible repeat (first | refine blk_drewN ?_ _ | refine blk_drew ?_ | refine blk_alloc ?_ _)); exact BK249.out⟩, ⟨by (with_reducible repeat (first | refine blk_drewN ?_ _ | refine blk_drew ?_ | refine blk_alloc ?_ _)); exact BK257.out⟩, ⟨by repeat (first | (with_reducible first | exact HB.out | apply below_alloc | apply pw_below_drewN | apply below_drew1 | refine below_set ?_ GE232.out | refine below_set ?_ GE233.out | refine below_set ?_ GE241.out | refine below_set ?_ GE249.out | refine below_set ?_ GE257.out) | exact HB.out)⟩⟩
    ·
     replace c49 := Bool.eq_false_iff.mpr c49
     subst c49
     rw [if_neg (show ¬ (false = true) by decide)] at H
     have H' := Aside0.mk H
     clear H
     go_wp2_with (first | ((with_reducible refine gate_callee (f := 16) rfl ?_); refine goesL_ (some 41) rfl rfl Try.func16 (by kernel_rfl) rfl #[] rfl (mapq rfl) ?_; (with_reducible refine (avermentlaw09_told.calls k  true _ A46.out).mono ?_); rintro e w92 ⟨rfl, hb⟩; refine ⟨_, rfl, ?_⟩; replace BK232 := Aside0.mk (blk_below (g := gb232) (o := .cells #[.bool a1_0, .int .i64 a1_1] 23 (0, 0)) (by (with_reducible repeat (first | refine blk_drewN ?_ _ | refine blk_drew ?_ | refine blk_alloc ?_ _)); refine blk_far ?_ NB232_257.out _; (with_reducible repeat (first | refine blk_drewN ?_ _ | refine blk_drew ?_ | refine blk_alloc ?_ _)); refine blk_far ?_ NB232_257.out _; (with_reducible repeat (first | refine blk_drewN ?_ _ | refine blk_drew ?_ | refine blk_alloc ?_ _)); exact BK232.out) hb); replace BK233 := Aside0.mk (blk_below (g := gb233) (o := .cells #[.bool a2_0, .int .i64 a2_1] 23 (0, 0)) (by (with_reducible repeat (first | refine blk_drewN ?_ _ | refine blk_drew ?_ | refine blk_alloc ?_ _)); refine blk_far ?_ NB233_257.out _; (with_reducible repeat (first | refine blk_drewN ?_ _ | refine blk_drew ?_ | refine blk_alloc ?_ _)); refine blk_far ?_ NB233_257.out _; (with_reducible repeat (first | refine blk_drewN ?_ _ | refine blk_drew ?_ | refine blk_alloc ?_ _)); exact BK233.out) hb); replace BK241 := Aside0.mk (blk_below (g := gb241) (o := .cells #[.bool t238, .int .i64 t239] 24 (0, 0)) (by (with_reducible repeat (first | refine blk_drewN ?_ _ | refine blk_drew ?_ | refine blk_alloc ?_ _)); refine blk_far ?_ NB241_257.out _; (with_reducible repeat (first | refine blk_drewN ?_ _ | refine blk_drew ?_ | refine blk_alloc ?_ _)); refine blk_far ?_ NB241_257.out _; (with_reducible repeat (first | refine blk_drewN ?_ _ | refine blk_drew ?_ | refine blk_alloc ?_ _)); exact BK241.out) hb); replace BK249 := Aside0.mk (blk_below (g := gb249) (o := .cells #[.bool t246, .int .i64 t247] 24 (0, 0)) (by (with_reducible repeat (first | refine blk_drewN ?_ _ | refine blk_drew ?_ | refine blk_alloc ?_ _)); refine blk_far ?_ NB249_257.out _; (with_reducible repeat (first | refine blk_drewN ?_ _ | refine blk_drew ?_ | refine blk_alloc ?_ _)); refine blk_far ?_ NB249_257.out _; (with_reducible repeat (first | refine blk_drewN ?_ _ | refine blk_drew ?_ | refine blk_alloc ?_ _)); exact BK249.out) hb); replace BK257 := Aside0.mk (blk_below (g := gb257) (o := .cells #[.bool t254, .int .i64 t255] 24 (0, 0)) (by (with_reducible repeat (first | refine blk_drewN ?_ _ | refine blk_drew ?_ | refine blk_alloc ?_ _)); refine blk_put (cs := #[.bool t254, .int .i64 0]) ?_ 1 _ rfl; (with_reducible repeat (first | refine blk_drewN ?_ _ | refine blk_drew ?_ | refine blk_alloc ?_ _)); refine blk_put (cs := #[.bool false, .int .i64 0]) ?_ 0 _ rfl; (with_reducible repeat (first | refine blk_drewN ?_ _ | refine blk_drew ?_ | refine blk_alloc ?_ _)); exact BK257.out) hb); replace HB := Aside0.mk (below_step (by repeat (first | (with_reducible first | exact HB.out | apply below_alloc | apply pw_below_drewN | apply below_drew1 | refine below_set ?_ GE232.out | refine below_set ?_ GE233.out | refine below_set ?_ GE241.out | refine below_set ?_ GE249.out | refine below_set ?_ GE257.out) | exact HB.out)) hb); (try clear hb)))
     go_meet
     case rel => exact ⟨_, (true), (by first | rfl | (simp; done) | (simp [*]; done)), H', ⟨by first | omega | exact Nat.le_refl _⟩, ⟨by (with_reducible repeat (first | refine blk_drewN ?_ _ | refine blk_drew ?_ | refine blk_alloc ?_ _)); exact BK232.out⟩, ⟨by (with_reducible repeat (first | refine blk_drewN ?_ _ | refine blk_drew ?_ | refine blk_alloc ?_ _)); exact BK233.out⟩, ⟨by (with_reducible repeat (first | refine blk_drewN ?_ _ | refine blk_drew ?_ | refine blk_alloc ?_ _)); exact BK241.out⟩, ⟨by (with_reducible repeat (first | refine blk_drewN ?_ _ | refine blk_drew ?_ | refine blk_alloc ?_ _)); exact BK249.out⟩, ⟨by (with_reducible repeat (first | refine blk_drewN ?_ _ | refine blk_drew ?_ | refine blk_alloc ?_ _)); exact BK257.out⟩, ⟨by repeat (first | (with_reducible first | exact HB.out | apply below_alloc | apply pw_below_drewN | apply below_drew1 | refine below_set ?_ GE232.out | refine below_set ?_ GE233.out | refine below_set ?_ GE241.out | refine below_set ?_ GE249.out | refine below_set ?_ GE257.out) | exact HB.out)⟩⟩
   ·
    replace c48 := Bool.eq_false_iff.mpr c48
    subst c48
    rw [if_neg (show ¬ (false = true) by decide)] at H
    have H' := Aside0.mk H
    clear H
    go_wp2_with (first | ((with_reducible refine gate_callee (f := 16) rfl ?_); refine goesL_ (some 41) rfl rfl Try.func16 (by kernel_rfl) rfl #[] rfl (mapq rfl) ?_; (with_reducible refine (avermentlaw09_told.calls k  true _ A46.out).mono ?_); rintro e w93 ⟨rfl, hb⟩; refine ⟨_, rfl, ?_⟩; replace BK232 := Aside0.mk (blk_below (g := gb232) (o := .cells #[.bool a1_0, .int .i64 a1_1] 23 (0, 0)) (by (with_reducible repeat (first | refine blk_drewN ?_ _ | refine blk_drew ?_ | refine blk_alloc ?_ _)); refine blk_far ?_ NB232_257.out _; (with_reducible repeat (first | refine blk_drewN ?_ _ | refine blk_drew ?_ | refine blk_alloc ?_ _)); refine blk_far ?_ NB232_257.out _; (with_reducible repeat (first | refine blk_drewN ?_ _ | refine blk_drew ?_ | refine blk_alloc ?_ _)); exact BK232.out) hb); replace BK233 := Aside0.mk (blk_below (g := gb233) (o := .cells #[.bool a2_0, .int .i64 a2_1] 23 (0, 0)) (by (with_reducible repeat (first | refine blk_drewN ?_ _ | refine blk_drew ?_ | refine blk_alloc ?_ _)); refine blk_far ?_ NB233_257.out _; (with_reducible repeat (first | refine blk_drewN ?_ _ | refine blk_drew ?_ | refine blk_alloc ?_ _)); refine blk_far ?_ NB233_257.out _; (with_reducible repeat (first | refine blk_drewN ?_ _ | refine blk_drew ?_ | refine blk_alloc ?_ _)); exact BK233.out) hb); replace BK241 := Aside0.mk (blk_below (g := gb241) (o := .cells #[.bool t238, .int .i64 t239] 24 (0, 0)) (by (with_reducible repeat (first | refine blk_drewN ?_ _ | refine blk_drew ?_ | refine blk_alloc ?_ _)); refine blk_far ?_ NB241_257.out _; (with_reducible repeat (first | refine blk_drewN ?_ _ | refine blk_drew ?_ | refine blk_alloc ?_ _)); refine blk_far ?_ NB241_257.out _; (with_reducible repeat (first | refine blk_drewN ?_ _ | refine blk_drew ?_ | refine blk_alloc ?_ _)); exact BK241.out) hb); replace BK249 := Aside0.mk (blk_below (g := gb249) (o := .cells #[.bool t246, .int .i64 t247] 24 (0, 0)) (by (with_reducible repeat (first | refine blk_drewN ?_ _ | refine blk_drew ?_ | refine blk_alloc ?_ _)); refine blk_far ?_ NB249_257.out _; (with_reducible repeat (first | refine blk_drewN ?_ _ | refine blk_drew ?_ | refine blk_alloc ?_ _)); refine blk_far ?_ NB249_257.out _; (with_reducible repeat (first | refine blk_drewN ?_ _ | refine blk_drew ?_ | refine blk_alloc ?_ _)); exact BK249.out) hb); replace BK257 := Aside0.mk (blk_below (g := gb257) (o := .cells #[.bool t254, .int .i64 t255] 24 (0, 0)) (by (with_reducible repeat (first | refine blk_drewN ?_ _ | refine blk_drew ?_ | refine blk_alloc ?_ _)); refine blk_put (cs := #[.bool t254, .int .i64 0]) ?_ 1 _ rfl; (with_reducible repeat (first | refine blk_drewN ?_ _ | refine blk_drew ?_ | refine blk_alloc ?_ _)); refine blk_put (cs := #[.bool false, .int .i64 0]) ?_ 0 _ rfl; (with_reducible repeat (first | refine blk_drewN ?_ _ | refine blk_drew ?_ | refine blk_alloc ?_ _)); exact BK257.out) hb); replace HB := Aside0.mk (below_step (by repeat (first | (with_reducible first | exact HB.out | apply below_alloc | apply pw_below_drewN | apply below_drew1 | refine below_set ?_ GE232.out | refine below_set ?_ GE233.out | refine below_set ?_ GE241.out | refine below_set ?_ GE249.out | refine below_set ?_ GE257.out) | exact HB.out)) hb); (try clear hb)))
    go_meet
    case rel => exact ⟨_, (false), (by first | rfl | (simp; done) | (simp [*]; done)), H', ⟨by first | omega | exact Nat.le_refl _⟩, ⟨by (with_reducible repeat (first | refine blk_drewN ?_ _ | refine blk_drew ?_ | refine blk_alloc ?_ _)); exact BK232.out⟩, ⟨by (with_reducible repeat (first | refine blk_drewN ?_ _ | refine blk_drew ?_ | refine blk_alloc ?_ _)); exact BK233.out⟩, ⟨by (with_reducible repeat (first | refine blk_drewN ?_ _ | refine blk_drew ?_ | refine blk_alloc ?_ _)); exact BK241.out⟩, ⟨by (with_reducible repeat (first | refine blk_drewN ?_ _ | refine blk_drew ?_ | refine blk_alloc ?_ _)); exact BK249.out⟩, ⟨by (with_reducible repeat (first | refine blk_drewN ?_ _ | refine blk_drew ?_ | refine blk_alloc ?_ _)); exact BK257.out⟩, ⟨by repeat (first | (with_reducible first | exact HB.out | apply below_alloc | apply pw_below_drewN | apply below_drew1 | refine below_set ?_ GE232.out | refine below_set ?_ GE233.out | refine below_set ?_ GE241.out | refine below_set ?_ GE249.out | refine below_set ?_ GE257.out) | exact HB.out)⟩⟩
  ·
   replace c47 := Bool.eq_false_iff.mpr c47
   subst c47
   rw [if_neg (show ¬ (false = true) by decide)] at H
   have H' := Aside0.mk H
   clear H
   go_wp2_with (first | ((with_reducible refine gate_callee (f := 16) rfl ?_); refine goesL_ (some 41) rfl rfl Try.func16 (by kernel_rfl) rfl #[] rfl (mapq rfl) ?_; (with_reducible refine (avermentlaw09_told.calls k  false _ A46.out).mono ?_); rintro e w94 ⟨rfl, hb⟩; refine ⟨_, rfl, ?_⟩; replace BK232 := Aside0.mk (blk_below (g := gb232) (o := .cells #[.bool a1_0, .int .i64 a1_1] 23 (0, 0)) (by (with_reducible repeat (first | refine blk_drewN ?_ _ | refine blk_drew ?_ | refine blk_alloc ?_ _)); refine blk_far ?_ NB232_257.out _; (with_reducible repeat (first | refine blk_drewN ?_ _ | refine blk_drew ?_ | refine blk_alloc ?_ _)); refine blk_far ?_ NB232_257.out _; (with_reducible repeat (first | refine blk_drewN ?_ _ | refine blk_drew ?_ | refine blk_alloc ?_ _)); exact BK232.out) hb); replace BK233 := Aside0.mk (blk_below (g := gb233) (o := .cells #[.bool a2_0, .int .i64 a2_1] 23 (0, 0)) (by (with_reducible repeat (first | refine blk_drewN ?_ _ | refine blk_drew ?_ | refine blk_alloc ?_ _)); refine blk_far ?_ NB233_257.out _; (with_reducible repeat (first | refine blk_drewN ?_ _ | refine blk_drew ?_ | refine blk_alloc ?_ _)); refine blk_far ?_ NB233_257.out _; (with_reducible repeat (first | refine blk_drewN ?_ _ | refine blk_drew ?_ | refine blk_alloc ?_ _)); exact BK233.out) hb); replace BK241 := Aside0.mk (blk_below (g := gb241) (o := .cells #[.bool t238, .int .i64 t239] 24 (0, 0)) (by (with_reducible repeat (first | refine blk_drewN ?_ _ | refine blk_drew ?_ | refine blk_alloc ?_ _)); refine blk_far ?_ NB241_257.out _; (with_reducible repeat (first | refine blk_drewN ?_ _ | refine blk_drew ?_ | refine blk_alloc ?_ _)); refine blk_far ?_ NB241_257.out _; (with_reducible repeat (first | refine blk_drewN ?_ _ | refine blk_drew ?_ | refine blk_alloc ?_ _)); exact BK241.out) hb); replace BK249 := Aside0.mk (blk_below (g := gb249) (o := .cells #[.bool t246, .int .i64 t247] 24 (0, 0)) (by (with_reducible repeat (first | refine blk_drewN ?_ _ | refine blk_drew ?_ | refine blk_alloc ?_ _)); refine blk_far ?_ NB249_257.out _; (with_reducible repeat (first | refine blk_drewN ?_ _ | refine blk_drew ?_ | refine blk_alloc ?_ _)); refine blk_far ?_ NB249_257.out _; (with_reducible repeat (first | refine blk_drewN ?_ _ | refine blk_drew ?_ | refine blk_alloc ?_ _)); exact BK249.out) hb); replace BK257 := Aside0.mk (blk_below (g := gb257) (o := .cells #[.bool t254, .int .i64 t255] 24 (0, 0)) (by (with_reducible repeat (first | refine blk_drewN ?_ _ | refine blk_drew ?_ | refine blk_alloc ?_ _)); refine blk_put (cs := #[.bool t254, .int .i64 0]) ?_ 1 _ rfl; (with_reducible repeat (first | refine blk_drewN ?_ _ | refine blk_drew ?_ | refine blk_alloc ?_ _)); refine blk_put (cs := #[.bool false, .int .i64 0]) ?_ 0 _ rfl; (with_reducible repeat (first | refine blk_drewN ?_ _ | refine blk_drew ?_ | refine blk_alloc ?_ _)); exact BK257.out) hb); replace HB := Aside0.mk (below_step (by repeat (first | (with_reducible first | exact HB.out | apply below_alloc | apply pw_below_drewN | apply below_drew1 | refine below_set ?_ GE232.out | refine below_set ?_ GE233.out | refine below_set ?_ GE241.out | refine below_set ?_ GE249.out | refine below_set ?_ GE257.out) | exact HB.out)) hb); (try clear hb)))
   go_meet
   case rel => exact ⟨_, (true), (by first | rfl | (simp; done) | (simp [*]; done)), H', ⟨by first | omega | exact Nat.le_refl _⟩, ⟨by (with_reducible repeat (first | refine blk_drewN ?_ _ | refine blk_drew ?_ | refine blk_alloc ?_ _)); exact BK232.out⟩, ⟨by (with_reducible repeat (first | refine blk_drewN ?_ _ | refine blk_drew ?_ | refine blk_alloc ?_ _)); exact BK233.out⟩, ⟨by (with_reducible repeat (first | refine blk_drewN ?_ _ | refine blk_drew ?_ | refine blk_alloc ?_ _)); exact BK241.out⟩, ⟨by (with_reducible repeat (first | refine blk_drewN ?_ _ | refine blk_drew ?_ | refine blk_alloc ?_ _)); exact BK249.out⟩, ⟨by (with_reducible repeat (first | refine blk_drewN ?_ _ | refine blk_drew ?_ | refine blk_alloc ?_ _)); exact BK257.out⟩, ⟨by repeat (first | (with_reducible first | exact HB.out | apply below_alloc | apply pw_below_drewN | apply below_drew1 | refine below_set ?_ GE232.out | refine below_set ?_ GE233.out | refine below_set ?_ GE241.out | refine below_set ?_ GE249.out | refine below_set ?_ GE257.out) | exact HB.out)⟩⟩
 case rest =>
  clear HC13
  try clear c1
  try clear c2
  try clear p2
  try clear c3
  try clear c4
  try clear c5
  try clear c6
  try clear c7
  try clear c8
  try clear c14
  try clear c16
  try clear c20
  try clear c27
  try clear c33
  try clear c34
  try clear c35
  try clear c41
  try clear c42
  try clear c43
  try clear c44
  try clear c47
  try clear c48
  try clear c49
  try clear c51
  try clear c52
  try clear c55
  try clear c56
  try clear c57
  try clear c58
  try clear c60
  try clear c61
  try clear c62
  try clear c66
  try clear c67
  try clear c71
  try clear c72
  try clear c73
  try clear c74
  try clear c76
  try clear c77
  try clear c78
  try clear c82
  try clear c83
  try clear c84
  try clear c85
  try clear c87
  try clear c88
  try clear c89
  try clear hcz36_0
  try clear hcz36_1
  try clear hcz45_0
  try clear hcz45_1
  try clear hcz59_0
  try clear hcz59_1
  try clear hcz63_0
  try clear hcz63_1
  try clear hcz65_0
  try clear hcz65_1
  try clear hcz68_0
  try clear hcz68_1
  try clear hcz75_0
  try clear hcz75_1
  try clear hcz79_0
  try clear hcz79_1
  try clear hcz86_0
  try clear hcz86_1
  try clear hcz90_0
  try clear hcz90_1
  try clear hfz36_0
  try clear hfz36_1
  try clear hfz45_0
  try clear hfz45_1
  try clear hfz59_0
  try clear hfz59_1
  try clear hfz63_0
  try clear hfz63_1
  try clear hfz65_0
  try clear hfz65_1
  try clear hfz68_0
  try clear hfz68_1
  try clear hfz75_0
  try clear hfz75_1
  try clear hfz79_0
  try clear hfz79_1
  try clear hfz86_0
  try clear hfz86_1
  try clear hfz90_0
  try clear hfz90_1
  obtain ⟨kq, x68_12, rfl, HA, HJ12, BK232, BK233, BK241, BK249, BK257, HB⟩ := hcut
  cases kq with
  | zero => exact absurd HA.out (by simp [avermentlaw09_KnownRises.j0])
  | succ kj12 =>
   have H := HA.out
   clear HA
   simp only [avermentlaw09_KnownRises.j0] at H
   by_cases c95 : x68_12 = true
   ·
    subst c95
    rw [if_pos rfl] at H
    exact absurd ((Option.some.inj H).trans hr_.out) (by decide)
   ·
    replace c95 := Bool.eq_false_iff.mpr c95
    subst c95
    rw [if_neg (show ¬ (false = true) by decide)] at H
    replace H := Option.bind_eq_some_iff.mp H
    obtain ⟨⟨t261, t262⟩, A960, H⟩ := H
    (try dsimp only at H)
    have A96 := Aside0.mk A960
    clear A960
    replace H := Option.bind_eq_some_iff.mp H
    obtain ⟨⟨t263, t264⟩, A970, H⟩ := H
    (try dsimp only at H)
    have A97 := Aside0.mk A970
    clear A970
    replace H := Option.bind_eq_some_iff.mp H
    obtain ⟨⟨t265, t266, t267⟩, A980, H⟩ := H
    (try dsimp only at H)
    have A98 := Aside0.mk A980
    clear A980
    replace H := Option.bind_eq_some_iff.mp H
    obtain ⟨⟨t269, t270⟩, A990, H⟩ := H
    (try dsimp only at H)
    have A99 := Aside0.mk A990
    clear A990
    replace H := Option.bind_eq_some_iff.mp H
    obtain ⟨⟨t271, t272⟩, A1000, H⟩ := H
    (try dsimp only at H)
    have A100 := Aside0.mk A1000
    clear A1000
    replace H := Option.bind_eq_some_iff.mp H
    obtain ⟨⟨t273, t274⟩, A1010, H⟩ := H
    (try dsimp only at H)
    have A101 := Aside0.mk A1010
    clear A1010
    by_cases c102 : t267 = true
    ·
     subst c102
     rw [if_pos rfl] at H
     replace H := Option.bind_eq_some_iff.mp H
     obtain ⟨⟨t276, t277⟩, A1030, H⟩ := H
     (try dsimp only at H)
     have A103 := Aside0.mk A1030
     clear A1030
     replace H := Option.bind_eq_some_iff.mp H
     obtain ⟨t278, A1040, H⟩ := H
     (try dsimp only at H)
     have A104 := Aside0.mk A1040
     clear A1040
     by_cases c105 : t278 = true
     ·
      subst c105
      rw [if_pos rfl] at H
      replace H := Option.bind_eq_some_iff.mp H
      obtain ⟨⟨t279, t280⟩, A1060, H⟩ := H
      (try dsimp only at H)
      have A106 := Aside0.mk A1060
      clear A1060
      replace H := Option.bind_eq_some_iff.mp H
      obtain ⟨t281, A1070, H⟩ := H
      (try dsimp only at H)
      have A107 := Aside0.mk A1070
      clear A1070
      by_cases c108 : t281 = true
      ·
       subst c108
       rw [if_pos rfl] at H
       replace H := Option.bind_eq_some_iff.mp H
       obtain ⟨⟨t282, t283⟩, A1090, H⟩ := H
       (try dsimp only at H)
       have A109 := Aside0.mk A1090
       clear A1090
       replace H := Option.bind_eq_some_iff.mp H
       obtain ⟨t284, A1100, H⟩ := H
       (try dsimp only at H)
       have A110 := Aside0.mk A1100
       clear A1100
       by_cases c111 : t284 = true
       ·
        subst c111
        rw [if_pos rfl] at H
        replace H := Option.bind_eq_some_iff.mp H
        obtain ⟨⟨t285, t286⟩, A1120, H⟩ := H
        (try dsimp only at H)
        have A112 := Aside0.mk A1120
        clear A1120
        replace H := Option.bind_eq_some_iff.mp H
        obtain ⟨t287, A1130, H⟩ := H
        (try dsimp only at H)
        have A113 := Aside0.mk A1130
        clear A1130
        obtain rfl := Option.some.inj H
        try go_wp2
        replace BK232 := Aside0.mk (blk_drew BK232.out); replace BK233 := Aside0.mk (blk_drew BK233.out); replace BK241 := Aside0.mk (blk_drew BK241.out); replace BK249 := Aside0.mk (blk_drew BK249.out); replace BK257 := Aside0.mk (blk_drew BK257.out); replace HB := Aside0.mk (below_drew1 HB.out)
        refine start_ (n := 11) (S := fun w' => w'.cell? ⟨gb232, 0, none⟩ = some (.bool a1_0) ∧ w'.cell? ⟨gb232, 1, none⟩ = some (.int .i64 a1_1) ∧ w'.cell? ⟨gb233, 0, none⟩ = some (.bool a2_0) ∧ w'.cell? ⟨gb233, 1, none⟩ = some (.int .i64 a2_1)) (ds := []) #[false, false, false, false, false, false, false, false, false, false, false] (by kernel_rfl) rfl rfl ⟨bc BK232 0 rfl, bc BK232 1 rfl, bc BK233 0 rfl, bc BK233 1 rfl⟩ (fun hHeld => ?_); refine with_tabW avermentlaw09_KnownRises.tab6 avermentlaw09_KnownRises.bits6 (fun HT_ HW_ => ?_)
        generalize wc.drew = w114 at BK232 BK233 BK241 BK249 BK257 HB hHeld ⊢
        refine take_ (i := 0) (N := some 70) (v := ?_) (a' := ?_) #[true, false, false, false, false, false, false, false, false, false, false] rfl rfl (take_ofW HT_.out HW_.out (by kernel_rfl)) (fun _ _ _ h => h) (Or.inl ⟨by rfl, ?_⟩) hHeld ?_ ?_
        rotate_left
        ·
         rintro w' ⟨s0, s1, s2, s3⟩
         go_simp
         with_reducible rfl
        rotate_left
        ·
         simp only [Act.put, List.setIfInBounds_toArray, List.set_cons_zero, List.set_cons_succ, i64_w, i32_w]
         rfl
        refine take_ (i := 2) (N := some 72) (v := ?_) (a' := ?_) #[true, false, true, false, false, false, false, false, false, false, false] rfl rfl (take_ofW HT_.out HW_.out (by kernel_rfl)) (fun _ _ _ h => h) (Or.inl ⟨by rfl, ?_⟩) hHeld ?_ ?_
        rotate_left
        ·
         rintro w' ⟨s0, s1, s2, s3⟩
         go_simp
         with_reducible rfl
        rotate_left
        ·
         simp only [Act.put, List.setIfInBounds_toArray, List.set_cons_zero, List.set_cons_succ, i64_w, i32_w]
         rfl
        refine join_ (σ := Nat) 2 #[true, true, true, true, true, true, true, true, true, false, false] (fun s_ => [(71, .agg #[.bool t261, .int .i64 t262]), (73, .agg #[.bool t263, .int .i64 t264]), (74, .tuple #[.agg #[.bool t265, .int .i64 t266], .bool true]), (13, .pointer (some ⟨s_, 0, none⟩)), (69, .tuple #[.agg #[.bool t265, .int .i64 t266], .bool true]), (75, .agg #[.bool t265, .int .i64 t266]), (76, .bool true)]) (fun s_ w' => (w'.cell? ⟨gb232, 0, none⟩ = some (.bool a1_0) ∧ w'.cell? ⟨gb232, 1, none⟩ = some (.int .i64 a1_1) ∧ w'.cell? ⟨gb233, 0, none⟩ = some (.bool a2_0) ∧ w'.cell? ⟨gb233, 1, none⟩ = some (.int .i64 a2_1)) ∧ (w'.heap[gb232]? = some (.cells #[.bool a1_0, .int .i64 a1_1] 23 (0, 0))) ∧ (w'.heap[gb233]? = some (.cells #[.bool a2_0, .int .i64 a2_1] 23 (0, 0))) ∧ (w'.heap[gb241]? = some (.cells #[.bool t238, .int .i64 t239] 24 (0, 0))) ∧ (w'.heap[gb249]? = some (.cells #[.bool t246, .int .i64 t247] 24 (0, 0))) ∧ (w'.heap[gb257]? = some (.cells #[.bool t254, .int .i64 t255] 24 (0, 0))) ∧ (w'.heap[s_]? = some (.cells #[.bool false, .int .i64 0] 24 (0, 0))) ∧ (w.heap.size ≤ s_) ∧ (w.heap.size ≤ s_) ∧ (gb232 ≠ s_) ∧ (s_ ≠ gb232) ∧ (gb233 ≠ s_) ∧ (s_ ≠ gb233) ∧ (gb241 ≠ s_) ∧ (s_ ≠ gb241) ∧ (gb249 ≠ s_) ∧ (s_ ≠ gb249) ∧ (gb257 ≠ s_) ∧ (s_ ≠ gb257) ∧ (Below w.heap.size w w')) ?_ ?_
        rotate_left
        ·
         intro hCont
         refine two_ (i := 1) (j := 8) (Ni := some 71) (Nj := some 13) #[true, true, true, false, false, false, false, false, false, false, false] #[true, false, true, false, false, false, false, false, true, false, false] rfl rfl rfl rfl (two_of HT_.out (by kernel_rfl)) (by decide) (by decide) (fun K hK => ?_) (fun K hK => ?_)
         ·
          skip
          refine goes_ Try.func14 (by kernel_rfl) rfl #[.agg #[.bool a1_0, .int .i64 a1_1]] (by rfl) rfl rfl (mapq rfl) ?_
          with_reducible refine (avermentlaw09_To.calls a1_0 a1_1 t261 t262 _ A96.out).mono ?_
          rintro e w115 ⟨rfl, hb⟩
          refine ⟨_, rfl, ?_⟩
          replace BK232 := bb BK232 hb rfl; replace BK233 := bb BK233 hb rfl; replace BK241 := bb BK241 hb rfl; replace BK249 := bb BK249 hb rfl; replace BK257 := bb BK257 hb rfl; replace HB := hst HB hb rfl
          (try clear hb)
          refine hK.out _ _ ⟨bc BK232 0 rfl, bc BK232 1 rfl, bc BK233 0 rfl, bc BK233 1 rfl⟩ (fun hHeld => ?_)
          clear hK K
          refine norm_ (a' := ?_) ?_ ?_
          rotate_left; · (show Act.put _ (some 71) _ = _; simp only [Act.put, List.setIfInBounds_toArray, List.set_cons_zero, List.set_cons_succ, i64_w, i32_w]; rfl)
          refine two_ (i := 3) (j := 8) (Ni := some 73) (Nj := some 13) #[true, true, true, true, false, false, false, false, false, false, false] #[true, true, true, false, false, false, false, false, true, false, false] rfl rfl rfl rfl (two_of HT_.out (by kernel_rfl)) (by decide) (by decide) (fun K hK => ?_) (fun K hK => ?_)
          ·
           skip
           refine goes_ Try.func14 (by kernel_rfl) rfl #[.agg #[.bool a2_0, .int .i64 a2_1]] (by rfl) rfl rfl (mapq rfl) ?_
           with_reducible refine (avermentlaw09_To.calls a2_0 a2_1 t263 t264 _ A97.out).mono ?_
           rintro e w116 ⟨rfl, hb⟩
           refine ⟨_, rfl, ?_⟩
           replace BK232 := bb BK232 hb rfl; replace BK233 := bb BK233 hb rfl; replace BK241 := bb BK241 hb rfl; replace BK249 := bb BK249 hb rfl; replace BK257 := bb BK257 hb rfl; replace HB := hst HB hb rfl
           (try clear hb)
           refine hK.out _ _ ⟨bc BK232 0 rfl, bc BK232 1 rfl, bc BK233 0 rfl, bc BK233 1 rfl⟩ (fun hHeld => ?_)
           clear hK K
           refine norm_ (a' := ?_) ?_ ?_
           rotate_left; · (show Act.put _ (some 73) _ = _; simp only [Act.put, List.setIfInBounds_toArray, List.set_cons_zero, List.set_cons_succ, i64_w, i32_w]; rfl)
           refine two_ (i := 4) (j := 8) (Ni := some 74) (Nj := some 13) #[true, true, true, true, true, false, false, false, false, false, false] #[true, true, true, true, false, false, false, false, true, false, false] rfl rfl rfl rfl (two_of HT_.out (by kernel_rfl)) (by decide) (by decide) (fun K hK => ?_) (fun K hK => ?_)
           ·
            skip
            refine goes_ Try.func13 (by kernel_rfl) rfl #[.agg #[.bool t261, .int .i64 t262], .agg #[.bool t263, .int .i64 t264]] (by rfl) rfl rfl (mapq rfl) ?_
            with_reducible refine (known_Meet.calls t261 t262 t263 t264 t265 t266 true _ A98.out).mono ?_
            rintro e w117 ⟨rfl, hb⟩
            refine ⟨_, rfl, ?_⟩
            replace BK232 := bb BK232 hb rfl; replace BK233 := bb BK233 hb rfl; replace BK241 := bb BK241 hb rfl; replace BK249 := bb BK249 hb rfl; replace BK257 := bb BK257 hb rfl; replace HB := hst HB hb rfl
            (try clear hb)
            refine hK.out _ _ ⟨bc BK232 0 rfl, bc BK232 1 rfl, bc BK233 0 rfl, bc BK233 1 rfl⟩ (fun hHeld => ?_)
            clear hK K
            refine norm_ (a' := ?_) ?_ ?_
            rotate_left; · (show Act.put _ (some 74) _ = _; simp only [Act.put, List.setIfInBounds_toArray, List.set_cons_zero, List.set_cons_succ, i64_w, i32_w]; rfl)
            refine pure_ (i := 5) (N := some 69) (v := ?_) (a' := ?_) #[true, true, true, true, true, true, false, false, false, false, false] rfl rfl (any_of HT_.out (by kernel_rfl)) (fun _ _ _ h => h) (Or.inl ⟨by rfl, ?_⟩) ?_ ?_
            rotate_left; · (intro w'; go_simp; with_reducible rfl)
            rotate_left; · (simp only [Act.put, List.setIfInBounds_toArray, List.set_cons_zero, List.set_cons_succ, i64_w, i32_w]; rfl)
            refine pure_ (i := 6) (N := some 75) (v := ?_) (a' := ?_) #[true, true, true, true, true, true, true, false, false, false, false] rfl rfl (any_of HT_.out (by kernel_rfl)) (fun _ _ _ h => h) (Or.inl ⟨by rfl, ?_⟩) ?_ ?_
            rotate_left; · (intro w'; go_simp; with_reducible rfl)
            rotate_left; · (simp only [Act.put, List.setIfInBounds_toArray, List.set_cons_zero, List.set_cons_succ, i64_w, i32_w]; rfl)
            refine pure_ (i := 7) (N := some 76) (v := ?_) (a' := ?_) #[true, true, true, true, true, true, true, true, false, false, false] rfl rfl (any_of HT_.out (by kernel_rfl)) (fun _ _ _ h => h) (Or.inl ⟨by rfl, ?_⟩) ?_ ?_
            rotate_left; · (intro w'; go_simp; with_reducible rfl)
            rotate_left; · (simp only [Act.put, List.setIfInBounds_toArray, List.set_cons_zero, List.set_cons_succ, i64_w, i32_w]; rfl)
            refine one_ (i := 8) (N := some 13) #[true, true, true, true, true, true, true, true, true, false, false] rfl rfl (one_of HT_.out (by kernel_rfl)) (by decide) (fun K hK => ?_)
            refine box_step ?hg (N := 13) ?hd (cs := #[.bool false, .int .i64 0]) (t := 24) ?hr ?_; (case hd => rfl); (case hg => rfl); (case hr => first | (go_simp; done) | (go_simp; rfl))
            intro gb268 hg w118 hbox hb
            have BK268 := Aside0.mk (hbox)
            have GW268 := geb hg HB rfl
            have GE268 := geb hg HB rfl
            have NB232_268 := nbl hg BK232 rfl
            have NB268_232 := nbr hg BK232 rfl
            have NB233_268 := nbl hg BK233 rfl
            have NB268_233 := nbr hg BK233 rfl
            have NB241_268 := nbl hg BK241 rfl
            have NB268_241 := nbr hg BK241 rfl
            have NB249_268 := nbl hg BK249 rfl
            have NB268_249 := nbr hg BK249 rfl
            have NB257_268 := nbl hg BK257 rfl
            have NB268_257 := nbr hg BK257 rfl
            replace BK232 := bb BK232 hb rfl; replace BK233 := bb BK233 hb rfl; replace BK241 := bb BK241 hb rfl; replace BK249 := bb BK249 hb rfl; replace BK257 := bb BK257 hb rfl; replace HB := hst HB hb rfl
            clear hb hbox hg
            refine hK.out _ _ ⟨bc BK232 0 rfl, bc BK232 1 rfl, bc BK233 0 rfl, bc BK233 1 rfl⟩ (fun hHeld => ?_)
            clear hK K
            refine norm_ (a' := ?_) ?_ ?_
            rotate_left; · (show Act.put _ (some 13) _ = _; simp only [Act.put, List.setIfInBounds_toArray, List.set_cons_zero, List.set_cons_succ, i64_w, i32_w]; rfl)
            exact norm_ (by simp only [putAll, Act.put, List.setIfInBounds_toArray, List.set_cons_zero, List.set_cons_succ]) (hCont (gb268) _ ⟨hHeld, BK232.out, BK233.out, BK241.out, BK249.out, BK257.out, BK268.out, GW268.out, GE268.out, NB232_268.out, NB268_232.out, NB233_268.out, NB268_233.out, NB241_268.out, NB268_241.out, NB249_268.out, NB268_249.out, NB257_268.out, NB268_257.out, (by repeat (first | (with_reducible first | exact HB.out | apply below_alloc | apply pw_below_drewN | apply below_drew1 | refine below_set ?_ GE232.out | refine below_set ?_ GE233.out | refine below_set ?_ GE241.out | refine below_set ?_ GE249.out | refine below_set ?_ GE257.out | refine below_set ?_ GE268.out) | exact HB.out))⟩)
           ·
            skip
            refine box_step ?hg (N := 13) ?hd (cs := #[.bool false, .int .i64 0]) (t := 24) ?hr ?_; (case hd => rfl); (case hg => rfl); (case hr => first | (go_simp; done) | (go_simp; rfl))
            intro gb268 hg w117 hbox hb
            have BK268 := Aside0.mk (hbox)
            have GW268 := geb hg HB rfl
            have GE268 := geb hg HB rfl
            have NB232_268 := nbl hg BK232 rfl
            have NB268_232 := nbr hg BK232 rfl
            have NB233_268 := nbl hg BK233 rfl
            have NB268_233 := nbr hg BK233 rfl
            have NB241_268 := nbl hg BK241 rfl
            have NB268_241 := nbr hg BK241 rfl
            have NB249_268 := nbl hg BK249 rfl
            have NB268_249 := nbr hg BK249 rfl
            have NB257_268 := nbl hg BK257 rfl
            have NB268_257 := nbr hg BK257 rfl
            replace BK232 := bb BK232 hb rfl; replace BK233 := bb BK233 hb rfl; replace BK241 := bb BK241 hb rfl; replace BK249 := bb BK249 hb rfl; replace BK257 := bb BK257 hb rfl; replace HB := hst HB hb rfl
            clear hb hbox hg
            refine hK.out _ _ ⟨bc BK232 0 rfl, bc BK232 1 rfl, bc BK233 0 rfl, bc BK233 1 rfl⟩ (fun hHeld => ?_)
            clear hK K
            refine norm_ (a' := ?_) ?_ ?_
            rotate_left; · (show Act.put _ (some 13) _ = _; simp only [Act.put, List.setIfInBounds_toArray, List.set_cons_zero, List.set_cons_succ, i64_w, i32_w]; rfl)
            refine one_ (i := 4) (N := some 74) #[true, true, true, true, true, false, false, false, true, false, false] rfl rfl (one_of HT_.out (by kernel_rfl)) (by decide) (fun K hK => ?_)
            refine goes_ Try.func13 (by kernel_rfl) rfl #[.agg #[.bool t261, .int .i64 t262], .agg #[.bool t263, .int .i64 t264]] (by rfl) rfl rfl (mapq rfl) ?_
            with_reducible refine (known_Meet.calls t261 t262 t263 t264 t265 t266 true _ A98.out).mono ?_
            rintro e w118 ⟨rfl, hb⟩
            refine ⟨_, rfl, ?_⟩
            replace BK232 := bb BK232 hb rfl; replace BK233 := bb BK233 hb rfl; replace BK241 := bb BK241 hb rfl; replace BK249 := bb BK249 hb rfl; replace BK257 := bb BK257 hb rfl; replace BK268 := bb BK268 hb rfl; replace HB := hst HB hb rfl
            (try clear hb)
            refine hK.out _ _ ⟨bc BK232 0 rfl, bc BK232 1 rfl, bc BK233 0 rfl, bc BK233 1 rfl⟩ (fun hHeld => ?_)
            clear hK K
            refine norm_ (a' := ?_) ?_ ?_
            rotate_left; · (show Act.put _ (some 74) _ = _; simp only [Act.put, List.setIfInBounds_toArray, List.set_cons_zero, List.set_cons_succ, i64_w, i32_w]; rfl)
            refine pure_ (i := 5) (N := some 69) (v := ?_) (a' := ?_) #[true, true, true, true, true, true, false, false, true, false, false] rfl rfl (any_of HT_.out (by kernel_rfl)) (fun _ _ _ h => h) (Or.inl ⟨by rfl, ?_⟩) ?_ ?_
            rotate_left; · (intro w'; go_simp; with_reducible rfl)
            rotate_left; · (simp only [Act.put, List.setIfInBounds_toArray, List.set_cons_zero, List.set_cons_succ, i64_w, i32_w]; rfl)
            refine pure_ (i := 6) (N := some 75) (v := ?_) (a' := ?_) #[true, true, true, true, true, true, true, false, true, false, false] rfl rfl (any_of HT_.out (by kernel_rfl)) (fun _ _ _ h => h) (Or.inl ⟨by rfl, ?_⟩) ?_ ?_
            rotate_left; · (intro w'; go_simp; with_reducible rfl)
            rotate_left; · (simp only [Act.put, List.setIfInBounds_toArray, List.set_cons_zero, List.set_cons_succ, i64_w, i32_w]; rfl)
            refine pure_ (i := 7) (N := some 76) (v := ?_) (a' := ?_) #[true, true, true, true, true, true, true, true, true, false, false] rfl rfl (any_of HT_.out (by kernel_rfl)) (fun _ _ _ h => h) (Or.inl ⟨by rfl, ?_⟩) ?_ ?_
            rotate_left; · (intro w'; go_simp; with_reducible rfl)
            rotate_left; · (simp only [Act.put, List.setIfInBounds_toArray, List.set_cons_zero, List.set_cons_succ, i64_w, i32_w]; rfl)
            exact norm_ (by simp only [putAll, Act.put, List.setIfInBounds_toArray, List.set_cons_zero, List.set_cons_succ]) (hCont (gb268) _ ⟨hHeld, BK232.out, BK233.out, BK241.out, BK249.out, BK257.out, BK268.out, GW268.out, GE268.out, NB232_268.out, NB268_232.out, NB233_268.out, NB268_233.out, NB241_268.out, NB268_241.out, NB249_268.out, NB268_249.out, NB257_268.out, NB268_257.out, (by repeat (first | (with_reducible first | exact HB.out | apply below_alloc | apply pw_below_drewN | apply below_drew1 | refine below_set ?_ GE232.out | refine below_set ?_ GE233.out | refine below_set ?_ GE241.out | refine below_set ?_ GE249.out | refine below_set ?_ GE257.out | refine below_set ?_ GE268.out) | exact HB.out))⟩)
          ·
           skip
           refine box_step ?hg (N := 13) ?hd (cs := #[.bool false, .int .i64 0]) (t := 24) ?hr ?_; (case hd => rfl); (case hg => rfl); (case hr => first | (go_simp; done) | (go_simp; rfl))
           intro gb268 hg w116 hbox hb
           have BK268 := Aside0.mk (hbox)
           have GW268 := geb hg HB rfl
           have GE268 := geb hg HB rfl
           have NB232_268 := nbl hg BK232 rfl
           have NB268_232 := nbr hg BK232 rfl
           have NB233_268 := nbl hg BK233 rfl
           have NB268_233 := nbr hg BK233 rfl
           have NB241_268 := nbl hg BK241 rfl
           have NB268_241 := nbr hg BK241 rfl
           have NB249_268 := nbl hg BK249 rfl
           have NB268_249 := nbr hg BK249 rfl
           have NB257_268 := nbl hg BK257 rfl
           have NB268_257 := nbr hg BK257 rfl
           replace BK232 := bb BK232 hb rfl; replace BK233 := bb BK233 hb rfl; replace BK241 := bb BK241 hb rfl; replace BK249 := bb BK249 hb rfl; replace BK257 := bb BK257 hb rfl; replace HB := hst HB hb rfl
           clear hb hbox hg
           refine hK.out _ _ ⟨bc BK232 0 rfl, bc BK232 1 rfl, bc BK233 0 rfl, bc BK233 1 rfl⟩ (fun hHeld => ?_)
           clear hK K
           refine norm_ (a' := ?_) ?_ ?_
           rotate_left; · (show Act.put _ (some 13) _ = _; simp only [Act.put, List.setIfInBounds_toArray, List.set_cons_zero, List.set_cons_succ, i64_w, i32_w]; rfl)
           refine one_ (i := 3) (N := some 73) #[true, true, true, true, false, false, false, false, true, false, false] rfl rfl (one_of HT_.out (by kernel_rfl)) (by decide) (fun K hK => ?_)
           refine goes_ Try.func14 (by kernel_rfl) rfl #[.agg #[.bool a2_0, .int .i64 a2_1]] (by rfl) rfl rfl (mapq rfl) ?_
           with_reducible refine (avermentlaw09_To.calls a2_0 a2_1 t263 t264 _ A97.out).mono ?_
           rintro e w117 ⟨rfl, hb⟩
           refine ⟨_, rfl, ?_⟩
           replace BK232 := bb BK232 hb rfl; replace BK233 := bb BK233 hb rfl; replace BK241 := bb BK241 hb rfl; replace BK249 := bb BK249 hb rfl; replace BK257 := bb BK257 hb rfl; replace BK268 := bb BK268 hb rfl; replace HB := hst HB hb rfl
           (try clear hb)
           refine hK.out _ _ ⟨bc BK232 0 rfl, bc BK232 1 rfl, bc BK233 0 rfl, bc BK233 1 rfl⟩ (fun hHeld => ?_)
           clear hK K
           refine norm_ (a' := ?_) ?_ ?_
           rotate_left; · (show Act.put _ (some 73) _ = _; simp only [Act.put, List.setIfInBounds_toArray, List.set_cons_zero, List.set_cons_succ, i64_w, i32_w]; rfl)
           refine one_ (i := 4) (N := some 74) #[true, true, true, true, true, false, false, false, true, false, false] rfl rfl (one_of HT_.out (by kernel_rfl)) (by decide) (fun K hK => ?_)
           refine goes_ Try.func13 (by kernel_rfl) rfl #[.agg #[.bool t261, .int .i64 t262], .agg #[.bool t263, .int .i64 t264]] (by rfl) rfl rfl (mapq rfl) ?_
           with_reducible refine (known_Meet.calls t261 t262 t263 t264 t265 t266 true _ A98.out).mono ?_
           rintro e w118 ⟨rfl, hb⟩
           refine ⟨_, rfl, ?_⟩
           replace BK232 := bb BK232 hb rfl; replace BK233 := bb BK233 hb rfl; replace BK241 := bb BK241 hb rfl; replace BK249 := bb BK249 hb rfl; replace BK257 := bb BK257 hb rfl; replace BK268 := bb BK268 hb rfl; replace HB := hst HB hb rfl
           (try clear hb)
           refine hK.out _ _ ⟨bc BK232 0 rfl, bc BK232 1 rfl, bc BK233 0 rfl, bc BK233 1 rfl⟩ (fun hHeld => ?_)
           clear hK K
           refine norm_ (a' := ?_) ?_ ?_
           rotate_left; · (show Act.put _ (some 74) _ = _; simp only [Act.put, List.setIfInBounds_toArray, List.set_cons_zero, List.set_cons_succ, i64_w, i32_w]; rfl)
           refine pure_ (i := 5) (N := some 69) (v := ?_) (a' := ?_) #[true, true, true, true, true, true, false, false, true, false, false] rfl rfl (any_of HT_.out (by kernel_rfl)) (fun _ _ _ h => h) (Or.inl ⟨by rfl, ?_⟩) ?_ ?_
           rotate_left; · (intro w'; go_simp; with_reducible rfl)
           rotate_left; · (simp only [Act.put, List.setIfInBounds_toArray, List.set_cons_zero, List.set_cons_succ, i64_w, i32_w]; rfl)
           refine pure_ (i := 6) (N := some 75) (v := ?_) (a' := ?_) #[true, true, true, true, true, true, true, false, true, false, false] rfl rfl (any_of HT_.out (by kernel_rfl)) (fun _ _ _ h => h) (Or.inl ⟨by rfl, ?_⟩) ?_ ?_
           rotate_left; · (intro w'; go_simp; with_reducible rfl)
           rotate_left; · (simp only [Act.put, List.setIfInBounds_toArray, List.set_cons_zero, List.set_cons_succ, i64_w, i32_w]; rfl)
           refine pure_ (i := 7) (N := some 76) (v := ?_) (a' := ?_) #[true, true, true, true, true, true, true, true, true, false, false] rfl rfl (any_of HT_.out (by kernel_rfl)) (fun _ _ _ h => h) (Or.inl ⟨by rfl, ?_⟩) ?_ ?_
           rotate_left; · (intro w'; go_simp; with_reducible rfl)
           rotate_left; · (simp only [Act.put, List.setIfInBounds_toArray, List.set_cons_zero, List.set_cons_succ, i64_w, i32_w]; rfl)
           exact norm_ (by simp only [putAll, Act.put, List.setIfInBounds_toArray, List.set_cons_zero, List.set_cons_succ]) (hCont (gb268) _ ⟨hHeld, BK232.out, BK233.out, BK241.out, BK249.out, BK257.out, BK268.out, GW268.out, GE268.out, NB232_268.out, NB268_232.out, NB233_268.out, NB268_233.out, NB241_268.out, NB268_241.out, NB249_268.out, NB268_249.out, NB257_268.out, NB268_257.out, (by repeat (first | (with_reducible first | exact HB.out | apply below_alloc | apply pw_below_drewN | apply below_drew1 | refine below_set ?_ GE232.out | refine below_set ?_ GE233.out | refine below_set ?_ GE241.out | refine below_set ?_ GE249.out | refine below_set ?_ GE257.out | refine below_set ?_ GE268.out) | exact HB.out))⟩)
         ·
          skip
          refine box_step ?hg (N := 13) ?hd (cs := #[.bool false, .int .i64 0]) (t := 24) ?hr ?_; (case hd => rfl); (case hg => rfl); (case hr => first | (go_simp; done) | (go_simp; rfl))
          intro gb268 hg w115 hbox hb
          have BK268 := Aside0.mk (hbox)
          have GW268 := geb hg HB rfl
          have GE268 := geb hg HB rfl
          have NB232_268 := nbl hg BK232 rfl
          have NB268_232 := nbr hg BK232 rfl
          have NB233_268 := nbl hg BK233 rfl
          have NB268_233 := nbr hg BK233 rfl
          have NB241_268 := nbl hg BK241 rfl
          have NB268_241 := nbr hg BK241 rfl
          have NB249_268 := nbl hg BK249 rfl
          have NB268_249 := nbr hg BK249 rfl
          have NB257_268 := nbl hg BK257 rfl
          have NB268_257 := nbr hg BK257 rfl
          replace BK232 := bb BK232 hb rfl; replace BK233 := bb BK233 hb rfl; replace BK241 := bb BK241 hb rfl; replace BK249 := bb BK249 hb rfl; replace BK257 := bb BK257 hb rfl; replace HB := hst HB hb rfl
          clear hb hbox hg
          refine hK.out _ _ ⟨bc BK232 0 rfl, bc BK232 1 rfl, bc BK233 0 rfl, bc BK233 1 rfl⟩ (fun hHeld => ?_)
          clear hK K
          refine norm_ (a' := ?_) ?_ ?_
          rotate_left; · (show Act.put _ (some 13) _ = _; simp only [Act.put, List.setIfInBounds_toArray, List.set_cons_zero, List.set_cons_succ, i64_w, i32_w]; rfl)
          refine one_ (i := 1) (N := some 71) #[true, true, true, false, false, false, false, false, true, false, false] rfl rfl (one_of HT_.out (by kernel_rfl)) (by decide) (fun K hK => ?_)
          refine goes_ Try.func14 (by kernel_rfl) rfl #[.agg #[.bool a1_0, .int .i64 a1_1]] (by rfl) rfl rfl (mapq rfl) ?_
          with_reducible refine (avermentlaw09_To.calls a1_0 a1_1 t261 t262 _ A96.out).mono ?_
          rintro e w116 ⟨rfl, hb⟩
          refine ⟨_, rfl, ?_⟩
          replace BK232 := bb BK232 hb rfl; replace BK233 := bb BK233 hb rfl; replace BK241 := bb BK241 hb rfl; replace BK249 := bb BK249 hb rfl; replace BK257 := bb BK257 hb rfl; replace BK268 := bb BK268 hb rfl; replace HB := hst HB hb rfl
          (try clear hb)
          refine hK.out _ _ ⟨bc BK232 0 rfl, bc BK232 1 rfl, bc BK233 0 rfl, bc BK233 1 rfl⟩ (fun hHeld => ?_)
          clear hK K
          refine norm_ (a' := ?_) ?_ ?_
          rotate_left; · (show Act.put _ (some 71) _ = _; simp only [Act.put, List.setIfInBounds_toArray, List.set_cons_zero, List.set_cons_succ, i64_w, i32_w]; rfl)
          refine one_ (i := 3) (N := some 73) #[true, true, true, true, false, false, false, false, true, false, false] rfl rfl (one_of HT_.out (by kernel_rfl)) (by decide) (fun K hK => ?_)
          refine goes_ Try.func14 (by kernel_rfl) rfl #[.agg #[.bool a2_0, .int .i64 a2_1]] (by rfl) rfl rfl (mapq rfl) ?_
          with_reducible refine (avermentlaw09_To.calls a2_0 a2_1 t263 t264 _ A97.out).mono ?_
          rintro e w117 ⟨rfl, hb⟩
          refine ⟨_, rfl, ?_⟩
          replace BK232 := bb BK232 hb rfl; replace BK233 := bb BK233 hb rfl; replace BK241 := bb BK241 hb rfl; replace BK249 := bb BK249 hb rfl; replace BK257 := bb BK257 hb rfl; replace BK268 := bb BK268 hb rfl; replace HB := hst HB hb rfl
          (try clear hb)
          refine hK.out _ _ ⟨bc BK232 0 rfl, bc BK232 1 rfl, bc BK233 0 rfl, bc BK233 1 rfl⟩ (fun hHeld => ?_)
          clear hK K
          refine norm_ (a' := ?_) ?_ ?_
          rotate_left; · (show Act.put _ (some 73) _ = _; simp only [Act.put, List.setIfInBounds_toArray, List.set_cons_zero, List.set_cons_succ, i64_w, i32_w]; rfl)
          refine one_ (i := 4) (N := some 74) #[true, true, true, true, true, false, false, false, true, false, false] rfl rfl (one_of HT_.out (by kernel_rfl)) (by decide) (fun K hK => ?_)
          refine goes_ Try.func13 (by kernel_rfl) rfl #[.agg #[.bool t261, .int .i64 t262], .agg #[.bool t263, .int .i64 t264]] (by rfl) rfl rfl (mapq rfl) ?_
          with_reducible refine (known_Meet.calls t261 t262 t263 t264 t265 t266 true _ A98.out).mono ?_
          rintro e w118 ⟨rfl, hb⟩
          refine ⟨_, rfl, ?_⟩
          replace BK232 := bb BK232 hb rfl; replace BK233 := bb BK233 hb rfl; replace BK241 := bb BK241 hb rfl; replace BK249 := bb BK249 hb rfl; replace BK257 := bb BK257 hb rfl; replace BK268 := bb BK268 hb rfl; replace HB := hst HB hb rfl
          (try clear hb)
          refine hK.out _ _ ⟨bc BK232 0 rfl, bc BK232 1 rfl, bc BK233 0 rfl, bc BK233 1 rfl⟩ (fun hHeld => ?_)
          clear hK K
          refine norm_ (a' := ?_) ?_ ?_
          rotate_left; · (show Act.put _ (some 74) _ = _; simp only [Act.put, List.setIfInBounds_toArray, List.set_cons_zero, List.set_cons_succ, i64_w, i32_w]; rfl)
          refine pure_ (i := 5) (N := some 69) (v := ?_) (a' := ?_) #[true, true, true, true, true, true, false, false, true, false, false] rfl rfl (any_of HT_.out (by kernel_rfl)) (fun _ _ _ h => h) (Or.inl ⟨by rfl, ?_⟩) ?_ ?_
          rotate_left; · (intro w'; go_simp; with_reducible rfl)
          rotate_left; · (simp only [Act.put, List.setIfInBounds_toArray, List.set_cons_zero, List.set_cons_succ, i64_w, i32_w]; rfl)
          refine pure_ (i := 6) (N := some 75) (v := ?_) (a' := ?_) #[true, true, true, true, true, true, true, false, true, false, false] rfl rfl (any_of HT_.out (by kernel_rfl)) (fun _ _ _ h => h) (Or.inl ⟨by rfl, ?_⟩) ?_ ?_
          rotate_left; · (intro w'; go_simp; with_reducible rfl)
          rotate_left; · (simp only [Act.put, List.setIfInBounds_toArray, List.set_cons_zero, List.set_cons_succ, i64_w, i32_w]; rfl)
          refine pure_ (i := 7) (N := some 76) (v := ?_) (a' := ?_) #[true, true, true, true, true, true, true, true, true, false, false] rfl rfl (any_of HT_.out (by kernel_rfl)) (fun _ _ _ h => h) (Or.inl ⟨by rfl, ?_⟩) ?_ ?_
          rotate_left; · (intro w'; go_simp; with_reducible rfl)
          rotate_left; · (simp only [Act.put, List.setIfInBounds_toArray, List.set_cons_zero, List.set_cons_succ, i64_w, i32_w]; rfl)
          exact norm_ (by simp only [putAll, Act.put, List.setIfInBounds_toArray, List.set_cons_zero, List.set_cons_succ]) (hCont (gb268) _ ⟨hHeld, BK232.out, BK233.out, BK241.out, BK249.out, BK257.out, BK268.out, GW268.out, GE268.out, NB232_268.out, NB268_232.out, NB233_268.out, NB268_233.out, NB241_268.out, NB268_241.out, NB249_268.out, NB268_249.out, NB257_268.out, NB268_257.out, (by repeat (first | (with_reducible first | exact HB.out | apply below_alloc | apply pw_below_drewN | apply below_drew1 | refine below_set ?_ GE232.out | refine below_set ?_ GE233.out | refine below_set ?_ GE241.out | refine below_set ?_ GE249.out | refine below_set ?_ GE257.out | refine below_set ?_ GE268.out) | exact HB.out))⟩)
        rintro gb268 w119 ⟨hS_, h0_, h1_, h2_, h3_, h4_, h5_, h6_, h7_, h8_, h9_, h10_, h11_, h12_, h13_, h14_, h15_, h16_, h17_, h18_⟩
        have n0_ : Aside0 (w119.heap[gb232]? = some (.cells #[.bool a1_0, .int .i64 a1_1] 23 (0, 0))) := ⟨h0_⟩
        have n1_ : Aside0 (w119.heap[gb233]? = some (.cells #[.bool a2_0, .int .i64 a2_1] 23 (0, 0))) := ⟨h1_⟩
        have n2_ : Aside0 (w119.heap[gb241]? = some (.cells #[.bool t238, .int .i64 t239] 24 (0, 0))) := ⟨h2_⟩
        have n3_ : Aside0 (w119.heap[gb249]? = some (.cells #[.bool t246, .int .i64 t247] 24 (0, 0))) := ⟨h3_⟩
        have n4_ : Aside0 (w119.heap[gb257]? = some (.cells #[.bool t254, .int .i64 t255] 24 (0, 0))) := ⟨h4_⟩
        have n5_ : Aside0 (w119.heap[gb268]? = some (.cells #[.bool false, .int .i64 0] 24 (0, 0))) := ⟨h5_⟩
        have n6_ : Aside0 (w.heap.size ≤ gb268) := ⟨h6_⟩
        have n7_ : Aside0 (w.heap.size ≤ gb268) := ⟨h7_⟩
        have n8_ : Aside0 (gb232 ≠ gb268) := ⟨h8_⟩
        have n9_ : Aside0 (gb268 ≠ gb232) := ⟨h9_⟩
        have n10_ : Aside0 (gb233 ≠ gb268) := ⟨h10_⟩
        have n11_ : Aside0 (gb268 ≠ gb233) := ⟨h11_⟩
        have n12_ : Aside0 (gb241 ≠ gb268) := ⟨h12_⟩
        have n13_ : Aside0 (gb268 ≠ gb241) := ⟨h13_⟩
        have n14_ : Aside0 (gb249 ≠ gb268) := ⟨h14_⟩
        have n15_ : Aside0 (gb268 ≠ gb249) := ⟨h15_⟩
        have n16_ : Aside0 (gb257 ≠ gb268) := ⟨h16_⟩
        have n17_ : Aside0 (gb268 ≠ gb257) := ⟨h17_⟩
        have n18_ : Aside0 (Below w.heap.size w w119) := ⟨h18_⟩
        clear BK232
        clear BK233
        clear BK241
        clear BK249
        clear BK257
        clear HB
        clear h0_ h1_ h2_ h3_ h4_ h5_ h6_ h7_ h8_ h9_ h10_ h11_ h12_ h13_ h14_ h15_ h16_ h17_ h18_
        have BK232 := n0_
        have BK233 := n1_
        have BK241 := n2_
        have BK249 := n3_
        have BK257 := n4_
        have BK268 := n5_
        have GW268 := n6_
        have GE268 := n7_
        have NB232_268 := n8_
        have NB268_232 := n9_
        have NB233_268 := n10_
        have NB268_233 := n11_
        have NB241_268 := n12_
        have NB268_241 := n13_
        have NB249_268 := n14_
        have NB268_249 := n15_
        have NB257_268 := n16_
        have NB268_257 := n17_
        have HB := n18_
        clear n0_ n1_ n2_ n3_ n4_ n5_ n6_ n7_ n8_ n9_ n10_ n11_ n12_ n13_ n14_ n15_ n16_ n17_ n18_
        have hHeld : w119.cell? ⟨gb232, 0, none⟩ = some (.bool a1_0) ∧ w119.cell? ⟨gb232, 1, none⟩ = some (.int .i64 a1_1) ∧ w119.cell? ⟨gb233, 0, none⟩ = some (.bool a2_0) ∧ w119.cell? ⟨gb233, 1, none⟩ = some (.int .i64 a2_1) := hS_
        refine norm_ (a' := ?_) ?_ ?_
        rotate_left
        ·
         simp only [putAll, Act.put, List.setIfInBounds_toArray, List.set_cons_zero, List.set_cons_succ]
         rfl
        refine one_ (i := 9) (N := none) #[true, true, true, true, true, true, true, true, true, true, false] rfl rfl (one_of HT_.out (by kernel_rfl)) (by decide) (fun K hK => ?_)
        have hs120 : w119.cell? ⟨gb268, 0, none⟩ = some (.bool false) := bc BK268 0 rfl
        have hfs120 := blk_frozen BK268.out 0
        have hns120_0 := NB232_268.out
        have hns120_1 := NB233_268.out
        have hns120_2 := NB241_268.out
        have hns120_3 := NB249_268.out
        have hns120_4 := NB257_268.out
        have hms120_0 := NB268_232.out
        have hms120_1 := NB268_233.out
        have hms120_2 := NB268_241.out
        have hms120_3 := NB268_249.out
        have hms120_4 := NB268_257.out
        have hs121 : w119.cell? ⟨gb268, 1, none⟩ = some (.int .i64 0) := bc BK268 1 rfl
        have hfs121 := blk_frozen BK268.out 1
        have hns121_0 := NB232_268.out
        have hns121_1 := NB233_268.out
        have hns121_2 := NB241_268.out
        have hns121_3 := NB249_268.out
        have hns121_4 := NB257_268.out
        have hms121_0 := NB268_232.out
        have hms121_1 := NB268_233.out
        have hms121_2 := NB268_241.out
        have hms121_3 := NB268_249.out
        have hms121_4 := NB268_257.out
        refine skip_ (w1 := ?_) (by rfl) rfl ?_ ?_
        rotate_left
        ·
         go_simp
         rfl
        refine hK.out _ _ ⟨((cell_far (p := ⟨gb268, _, none⟩) NB232_268.out _).trans (((cell_far (p := ⟨gb268, _, none⟩) NB232_268.out _).trans (hHeld.1)))), ((cell_far (p := ⟨gb268, _, none⟩) NB232_268.out _).trans (((cell_far (p := ⟨gb268, _, none⟩) NB232_268.out _).trans (hHeld.2.1)))), ((cell_far (p := ⟨gb268, _, none⟩) NB233_268.out _).trans (((cell_far (p := ⟨gb268, _, none⟩) NB233_268.out _).trans (hHeld.2.2.1)))), ((cell_far (p := ⟨gb268, _, none⟩) NB233_268.out _).trans (((cell_far (p := ⟨gb268, _, none⟩) NB233_268.out _).trans (hHeld.2.2.2))))⟩ (fun hHeld => ?_)
        clear hK K
        refine pure_ (i := 10) (N := some 14) (v := ?_) (a' := ?_) #[true, true, true, true, true, true, true, true, true, true, true] rfl rfl (any_of HT_.out (by kernel_rfl)) (fun _ _ _ h => h) (Or.inl ⟨by rfl, ?_⟩) ?_ ?_
        rotate_left; · (intro w'; go_simp; with_reducible rfl)
        rotate_left; · (simp only [Act.put, List.setIfInBounds_toArray, List.set_cons_zero, List.set_cons_succ, i64_w, i32_w]; rfl)
        refine done_ (done_of HT_.out (by kernel_rfl)) ?_
        try go_wp2
        have n0_ : Aside0 (((w119.setCell ⟨gb268, 0, none⟩ (.bool t265)).setCell ⟨gb268, 1, none⟩ (.int .i64 t266)).heap[gb232]? = some (.cells #[.bool a1_0, .int .i64 a1_1] 23 (0, 0))) := ⟨by (with_reducible repeat (first | refine blk_drewN ?_ _ | refine blk_drew ?_ | refine blk_alloc ?_ _)); refine blk_far ?_ NB232_268.out _; (with_reducible repeat (first | refine blk_drewN ?_ _ | refine blk_drew ?_ | refine blk_alloc ?_ _)); refine blk_far ?_ NB232_268.out _; (with_reducible repeat (first | refine blk_drewN ?_ _ | refine blk_drew ?_ | refine blk_alloc ?_ _)); exact BK232.out⟩
        have n1_ : Aside0 (((w119.setCell ⟨gb268, 0, none⟩ (.bool t265)).setCell ⟨gb268, 1, none⟩ (.int .i64 t266)).heap[gb233]? = some (.cells #[.bool a2_0, .int .i64 a2_1] 23 (0, 0))) := ⟨by (with_reducible repeat (first | refine blk_drewN ?_ _ | refine blk_drew ?_ | refine blk_alloc ?_ _)); refine blk_far ?_ NB233_268.out _; (with_reducible repeat (first | refine blk_drewN ?_ _ | refine blk_drew ?_ | refine blk_alloc ?_ _)); refine blk_far ?_ NB233_268.out _; (with_reducible repeat (first | refine blk_drewN ?_ _ | refine blk_drew ?_ | refine blk_alloc ?_ _)); exact BK233.out⟩
        have n2_ : Aside0 (((w119.setCell ⟨gb268, 0, none⟩ (.bool t265)).setCell ⟨gb268, 1, none⟩ (.int .i64 t266)).heap[gb241]? = some (.cells #[.bool t238, .int .i64 t239] 24 (0, 0))) := ⟨by (with_reducible repeat (first | refine blk_drewN ?_ _ | refine blk_drew ?_ | refine blk_alloc ?_ _)); refine blk_far ?_ NB241_268.out _; (with_reducible repeat (first | refine blk_drewN ?_ _ | refine blk_drew ?_ | refine blk_alloc ?_ _)); refine blk_far ?_ NB241_268.out _; (with_reducible repeat (first | refine blk_drewN ?_ _ | refine blk_drew ?_ | refine blk_alloc ?_ _)); exact BK241.out⟩
        have n3_ : Aside0 (((w119.setCell ⟨gb268, 0, none⟩ (.bool t265)).setCell ⟨gb268, 1, none⟩ (.int .i64 t266)).heap[gb249]? = some (.cells #[.bool t246, .int .i64 t247] 24 (0, 0))) := ⟨by (with_reducible repeat (first | refine blk_drewN ?_ _ | refine blk_drew ?_ | refine blk_alloc ?_ _)); refine blk_far ?_ NB249_268.out _; (with_reducible repeat (first | refine blk_drewN ?_ _ | refine blk_drew ?_ | refine blk_alloc ?_ _)); refine blk_far ?_ NB249_268.out _; (with_reducible repeat (first | refine blk_drewN ?_ _ | refine blk_drew ?_ | refine blk_alloc ?_ _)); exact BK249.out⟩
        have n4_ : Aside0 (((w119.setCell ⟨gb268, 0, none⟩ (.bool t265)).setCell ⟨gb268, 1, none⟩ (.int .i64 t266)).heap[gb257]? = some (.cells #[.bool t254, .int .i64 t255] 24 (0, 0))) := ⟨by (with_reducible repeat (first | refine blk_drewN ?_ _ | refine blk_drew ?_ | refine blk_alloc ?_ _)); refine blk_far ?_ NB257_268.out _; (with_reducible repeat (first | refine blk_drewN ?_ _ | refine blk_drew ?_ | refine blk_alloc ?_ _)); refine blk_far ?_ NB257_268.out _; (with_reducible repeat (first | refine blk_drewN ?_ _ | refine blk_drew ?_ | refine blk_alloc ?_ _)); exact BK257.out⟩
        have n5_ : Aside0 (((w119.setCell ⟨gb268, 0, none⟩ (.bool t265)).setCell ⟨gb268, 1, none⟩ (.int .i64 t266)).heap[gb268]? = some (.cells #[.bool t265, .int .i64 t266] 24 (0, 0))) := ⟨by (with_reducible repeat (first | refine blk_drewN ?_ _ | refine blk_drew ?_ | refine blk_alloc ?_ _)); refine blk_put (cs := #[.bool t265, .int .i64 0]) ?_ 1 _ rfl; (with_reducible repeat (first | refine blk_drewN ?_ _ | refine blk_drew ?_ | refine blk_alloc ?_ _)); refine blk_put (cs := #[.bool false, .int .i64 0]) ?_ 0 _ rfl; (with_reducible repeat (first | refine blk_drewN ?_ _ | refine blk_drew ?_ | refine blk_alloc ?_ _)); exact BK268.out⟩
        have n6_ : Aside0 (Below w.heap.size w ((w119.setCell ⟨gb268, 0, none⟩ (.bool t265)).setCell ⟨gb268, 1, none⟩ (.int .i64 t266))) := ⟨by repeat (first | (with_reducible first | exact HB.out | apply below_alloc | apply pw_below_drewN | apply below_drew1 | refine below_set ?_ GE232.out | refine below_set ?_ GE233.out | refine below_set ?_ GE241.out | refine below_set ?_ GE249.out | refine below_set ?_ GE257.out | refine below_set ?_ GE268.out) | exact HB.out)⟩
        (try clear BK232)
        (try clear BK233)
        (try clear BK241)
        (try clear BK249)
        (try clear BK257)
        (try clear BK268)
        (try clear HB)
        generalize ((w119.setCell ⟨gb268, 0, none⟩ (.bool t265)).setCell ⟨gb268, 1, none⟩ (.int .i64 t266)) = w122 at n0_ n1_ n2_ n3_ n4_ n5_ n6_ ⊢
        have BK232 := n0_
        have BK233 := n1_
        have BK241 := n2_
        have BK249 := n3_
        have BK257 := n4_
        have BK268 := n5_
        have HB := n6_
        clear n0_ n1_ n2_ n3_ n4_ n5_ n6_
        replace BK232 := Aside0.mk (blk_drew BK232.out); replace BK233 := Aside0.mk (blk_drew BK233.out); replace BK241 := Aside0.mk (blk_drew BK241.out); replace BK249 := Aside0.mk (blk_drew BK249.out); replace BK257 := Aside0.mk (blk_drew BK257.out); replace BK268 := Aside0.mk (blk_drew BK268.out); replace HB := Aside0.mk (below_drew1 HB.out)
        refine start_ (n := 7) (S := fun w' => w'.cell? ⟨gb232, 0, none⟩ = some (.bool a1_0) ∧ w'.cell? ⟨gb232, 1, none⟩ = some (.int .i64 a1_1) ∧ w'.cell? ⟨gb233, 0, none⟩ = some (.bool a2_0) ∧ w'.cell? ⟨gb233, 1, none⟩ = some (.int .i64 a2_1)) (ds := []) #[false, false, false, false, false, false, false] (by kernel_rfl) rfl rfl ⟨bc BK232 0 rfl, bc BK232 1 rfl, bc BK233 0 rfl, bc BK233 1 rfl⟩ (fun hHeld => ?_)
        generalize w122.drew = w123 at BK232 BK233 BK241 BK249 BK257 BK268 HB hHeld ⊢
        refine take_ (i := 0) (N := some 77) (v := ?_) (a' := ?_) #[true, false, false, false, false, false, false] rfl rfl (by kernel_rfl) (fun _ _ _ h => h) (Or.inl ⟨by rfl, ?_⟩) hHeld ?_ ?_
        rotate_left
        ·
         rintro w' ⟨s0, s1, s2, s3⟩
         go_simp
         with_reducible rfl
        rotate_left
        ·
         simp only [Act.put, List.setIfInBounds_toArray, List.set_cons_zero, List.set_cons_succ, i64_w, i32_w]
         rfl
        refine take_ (i := 2) (N := some 79) (v := ?_) (a' := ?_) #[true, false, true, false, false, false, false] rfl rfl (by kernel_rfl) (fun _ _ _ h => h) (Or.inl ⟨by rfl, ?_⟩) hHeld ?_ ?_
        rotate_left
        ·
         rintro w' ⟨s0, s1, s2, s3⟩
         go_simp
         with_reducible rfl
        rotate_left
        ·
         simp only [Act.put, List.setIfInBounds_toArray, List.set_cons_zero, List.set_cons_succ, i64_w, i32_w]
         rfl
        refine join_ (σ := Nat) 1 #[true, true, true, true, true, true, false] (fun s_ => [(78, .agg #[.bool t269, .int .i64 t270]), (80, .agg #[.bool t271, .int .i64 t272]), (81, .agg #[.bool t273, .int .i64 t274]), (15, .pointer (some ⟨s_, 0, none⟩))]) (fun s_ w' => (w'.cell? ⟨gb232, 0, none⟩ = some (.bool a1_0) ∧ w'.cell? ⟨gb232, 1, none⟩ = some (.int .i64 a1_1) ∧ w'.cell? ⟨gb233, 0, none⟩ = some (.bool a2_0) ∧ w'.cell? ⟨gb233, 1, none⟩ = some (.int .i64 a2_1)) ∧ (w'.heap[gb232]? = some (.cells #[.bool a1_0, .int .i64 a1_1] 23 (0, 0))) ∧ (w'.heap[gb233]? = some (.cells #[.bool a2_0, .int .i64 a2_1] 23 (0, 0))) ∧ (w'.heap[gb241]? = some (.cells #[.bool t238, .int .i64 t239] 24 (0, 0))) ∧ (w'.heap[gb249]? = some (.cells #[.bool t246, .int .i64 t247] 24 (0, 0))) ∧ (w'.heap[gb257]? = some (.cells #[.bool t254, .int .i64 t255] 24 (0, 0))) ∧ (w'.heap[gb268]? = some (.cells #[.bool t265, .int .i64 t266] 24 (0, 0))) ∧ (w'.heap[s_]? = some (.cells #[.bool false, .int .i64 0] 24 (0, 0))) ∧ (w.heap.size ≤ s_) ∧ (w.heap.size ≤ s_) ∧ (gb232 ≠ s_) ∧ (s_ ≠ gb232) ∧ (gb233 ≠ s_) ∧ (s_ ≠ gb233) ∧ (gb241 ≠ s_) ∧ (s_ ≠ gb241) ∧ (gb249 ≠ s_) ∧ (s_ ≠ gb249) ∧ (gb257 ≠ s_) ∧ (s_ ≠ gb257) ∧ (gb268 ≠ s_) ∧ (s_ ≠ gb268) ∧ (Below w.heap.size w w')) ?_ ?_
        rotate_left
        ·
         intro hCont
         refine two_ (i := 1) (j := 5) (Ni := some 78) (Nj := some 15) #[true, true, true, false, false, false, false] #[true, false, true, false, false, true, false] rfl rfl rfl rfl (by kernel_rfl) (by decide) (by decide) (fun K hK => ?_) (fun K hK => ?_)
         ·
          skip
          refine goes_ Try.func14 (by kernel_rfl) rfl #[.agg #[.bool a1_0, .int .i64 a1_1]] (by rfl) rfl rfl (mapq rfl) ?_
          with_reducible refine (avermentlaw09_To.calls a1_0 a1_1 t269 t270 _ A99.out).mono ?_
          rintro e w124 ⟨rfl, hb⟩
          refine ⟨_, rfl, ?_⟩
          replace BK232 := bb BK232 hb rfl; replace BK233 := bb BK233 hb rfl; replace BK241 := bb BK241 hb rfl; replace BK249 := bb BK249 hb rfl; replace BK257 := bb BK257 hb rfl; replace BK268 := bb BK268 hb rfl; replace HB := hst HB hb rfl
          (try clear hb)
          refine hK.out _ _ ⟨bc BK232 0 rfl, bc BK232 1 rfl, bc BK233 0 rfl, bc BK233 1 rfl⟩ (fun hHeld => ?_)
          clear hK K
          refine norm_ (a' := ?_) ?_ ?_
          rotate_left; · (show Act.put _ (some 78) _ = _; simp only [Act.put, List.setIfInBounds_toArray, List.set_cons_zero, List.set_cons_succ, i64_w, i32_w]; rfl)
          refine two_ (i := 3) (j := 5) (Ni := some 80) (Nj := some 15) #[true, true, true, true, false, false, false] #[true, true, true, false, false, true, false] rfl rfl rfl rfl (by kernel_rfl) (by decide) (by decide) (fun K hK => ?_) (fun K hK => ?_)
          ·
           skip
           refine goes_ Try.func14 (by kernel_rfl) rfl #[.agg #[.bool a2_0, .int .i64 a2_1]] (by rfl) rfl rfl (mapq rfl) ?_
           with_reducible refine (avermentlaw09_To.calls a2_0 a2_1 t271 t272 _ A100.out).mono ?_
           rintro e w125 ⟨rfl, hb⟩
           refine ⟨_, rfl, ?_⟩
           replace BK232 := bb BK232 hb rfl; replace BK233 := bb BK233 hb rfl; replace BK241 := bb BK241 hb rfl; replace BK249 := bb BK249 hb rfl; replace BK257 := bb BK257 hb rfl; replace BK268 := bb BK268 hb rfl; replace HB := hst HB hb rfl
           (try clear hb)
           refine hK.out _ _ ⟨bc BK232 0 rfl, bc BK232 1 rfl, bc BK233 0 rfl, bc BK233 1 rfl⟩ (fun hHeld => ?_)
           clear hK K
           refine norm_ (a' := ?_) ?_ ?_
           rotate_left; · (show Act.put _ (some 80) _ = _; simp only [Act.put, List.setIfInBounds_toArray, List.set_cons_zero, List.set_cons_succ, i64_w, i32_w]; rfl)
           refine two_ (i := 4) (j := 5) (Ni := some 81) (Nj := some 15) #[true, true, true, true, true, false, false] #[true, true, true, true, false, true, false] rfl rfl rfl rfl (by kernel_rfl) (by decide) (by decide) (fun K hK => ?_) (fun K hK => ?_)
           ·
            skip
            refine goes_ Try.func23 (by kernel_rfl) rfl #[.agg #[.bool t269, .int .i64 t270], .agg #[.bool t271, .int .i64 t272]] (by rfl) rfl rfl (mapq rfl) ?_
            with_reducible refine (known_Join.calls t269 t270 t271 t272 t273 t274 _ A101.out).mono ?_
            rintro e w126 ⟨rfl, hb⟩
            refine ⟨_, rfl, ?_⟩
            replace BK232 := bb BK232 hb rfl; replace BK233 := bb BK233 hb rfl; replace BK241 := bb BK241 hb rfl; replace BK249 := bb BK249 hb rfl; replace BK257 := bb BK257 hb rfl; replace BK268 := bb BK268 hb rfl; replace HB := hst HB hb rfl
            (try clear hb)
            refine hK.out _ _ ⟨bc BK232 0 rfl, bc BK232 1 rfl, bc BK233 0 rfl, bc BK233 1 rfl⟩ (fun hHeld => ?_)
            clear hK K
            refine norm_ (a' := ?_) ?_ ?_
            rotate_left; · (show Act.put _ (some 81) _ = _; simp only [Act.put, List.setIfInBounds_toArray, List.set_cons_zero, List.set_cons_succ, i64_w, i32_w]; rfl)
            refine one_ (i := 5) (N := some 15) #[true, true, true, true, true, true, false] rfl rfl (by kernel_rfl) (by decide) (fun K hK => ?_)
            refine box_step ?hg (N := 15) ?hd (cs := #[.bool false, .int .i64 0]) (t := 24) ?hr ?_; (case hd => rfl); (case hg => rfl); (case hr => first | (go_simp; done) | (go_simp; rfl))
            intro gb275 hg w127 hbox hb
            have BK275 := Aside0.mk (hbox)
            have GW275 := geb hg HB rfl
            have GE275 := geb hg HB rfl
            have NB232_275 := nbl hg BK232 rfl
            have NB275_232 := nbr hg BK232 rfl
            have NB233_275 := nbl hg BK233 rfl
            have NB275_233 := nbr hg BK233 rfl
            have NB241_275 := nbl hg BK241 rfl
            have NB275_241 := nbr hg BK241 rfl
            have NB249_275 := nbl hg BK249 rfl
            have NB275_249 := nbr hg BK249 rfl
            have NB257_275 := nbl hg BK257 rfl
            have NB275_257 := nbr hg BK257 rfl
            have NB268_275 := nbl hg BK268 rfl
            have NB275_268 := nbr hg BK268 rfl
            replace BK232 := bb BK232 hb rfl; replace BK233 := bb BK233 hb rfl; replace BK241 := bb BK241 hb rfl; replace BK249 := bb BK249 hb rfl; replace BK257 := bb BK257 hb rfl; replace BK268 := bb BK268 hb rfl; replace HB := hst HB hb rfl
            clear hb hbox hg
            refine hK.out _ _ ⟨bc BK232 0 rfl, bc BK232 1 rfl, bc BK233 0 rfl, bc BK233 1 rfl⟩ (fun hHeld => ?_)
            clear hK K
            refine norm_ (a' := ?_) ?_ ?_
            rotate_left; · (show Act.put _ (some 15) _ = _; simp only [Act.put, List.setIfInBounds_toArray, List.set_cons_zero, List.set_cons_succ, i64_w, i32_w]; rfl)
            exact norm_ (by simp only [putAll, Act.put, List.setIfInBounds_toArray, List.set_cons_zero, List.set_cons_succ]) (hCont (gb275) _ ⟨hHeld, BK232.out, BK233.out, BK241.out, BK249.out, BK257.out, BK268.out, BK275.out, GW275.out, GE275.out, NB232_275.out, NB275_232.out, NB233_275.out, NB275_233.out, NB241_275.out, NB275_241.out, NB249_275.out, NB275_249.out, NB257_275.out, NB275_257.out, NB268_275.out, NB275_268.out, (by repeat (first | (with_reducible first | exact HB.out | apply below_alloc | apply pw_below_drewN | apply below_drew1 | refine below_set ?_ GE232.out | refine below_set ?_ GE233.out | refine below_set ?_ GE241.out | refine below_set ?_ GE249.out | refine below_set ?_ GE257.out | refine below_set ?_ GE268.out | refine below_set ?_ GE275.out) | exact HB.out))⟩)
           ·
            skip
            refine box_step ?hg (N := 15) ?hd (cs := #[.bool false, .int .i64 0]) (t := 24) ?hr ?_; (case hd => rfl); (case hg => rfl); (case hr => first | (go_simp; done) | (go_simp; rfl))
            intro gb275 hg w126 hbox hb
            have BK275 := Aside0.mk (hbox)
            have GW275 := geb hg HB rfl
            have GE275 := geb hg HB rfl
            have NB232_275 := nbl hg BK232 rfl
            have NB275_232 := nbr hg BK232 rfl
            have NB233_275 := nbl hg BK233 rfl
            have NB275_233 := nbr hg BK233 rfl
            have NB241_275 := nbl hg BK241 rfl
            have NB275_241 := nbr hg BK241 rfl
            have NB249_275 := nbl hg BK249 rfl
            have NB275_249 := nbr hg BK249 rfl
            have NB257_275 := nbl hg BK257 rfl
            have NB275_257 := nbr hg BK257 rfl
            have NB268_275 := nbl hg BK268 rfl
            have NB275_268 := nbr hg BK268 rfl
            replace BK232 := bb BK232 hb rfl; replace BK233 := bb BK233 hb rfl; replace BK241 := bb BK241 hb rfl; replace BK249 := bb BK249 hb rfl; replace BK257 := bb BK257 hb rfl; replace BK268 := bb BK268 hb rfl; replace HB := hst HB hb rfl
            clear hb hbox hg
            refine hK.out _ _ ⟨bc BK232 0 rfl, bc BK232 1 rfl, bc BK233 0 rfl, bc BK233 1 rfl⟩ (fun hHeld => ?_)
            clear hK K
            refine norm_ (a' := ?_) ?_ ?_
            rotate_left; · (show Act.put _ (some 15) _ = _; simp only [Act.put, List.setIfInBounds_toArray, List.set_cons_zero, List.set_cons_succ, i64_w, i32_w]; rfl)
            refine one_ (i := 4) (N := some 81) #[true, true, true, true, true, true, false] rfl rfl (by kernel_rfl) (by decide) (fun K hK => ?_)
            refine goes_ Try.func23 (by kernel_rfl) rfl #[.agg #[.bool t269, .int .i64 t270], .agg #[.bool t271, .int .i64 t272]] (by rfl) rfl rfl (mapq rfl) ?_
            with_reducible refine (known_Join.calls t269 t270 t271 t272 t273 t274 _ A101.out).mono ?_
            rintro e w127 ⟨rfl, hb⟩
            refine ⟨_, rfl, ?_⟩
            replace BK232 := bb BK232 hb rfl; replace BK233 := bb BK233 hb rfl; replace BK241 := bb BK241 hb rfl; replace BK249 := bb BK249 hb rfl; replace BK257 := bb BK257 hb rfl; replace BK268 := bb BK268 hb rfl; replace BK275 := bb BK275 hb rfl; replace HB := hst HB hb rfl
            (try clear hb)
            refine hK.out _ _ ⟨bc BK232 0 rfl, bc BK232 1 rfl, bc BK233 0 rfl, bc BK233 1 rfl⟩ (fun hHeld => ?_)
            clear hK K
            refine norm_ (a' := ?_) ?_ ?_
            rotate_left; · (show Act.put _ (some 81) _ = _; simp only [Act.put, List.setIfInBounds_toArray, List.set_cons_zero, List.set_cons_succ, i64_w, i32_w]; rfl)
            exact norm_ (by simp only [putAll, Act.put, List.setIfInBounds_toArray, List.set_cons_zero, List.set_cons_succ]) (hCont (gb275) _ ⟨hHeld, BK232.out, BK233.out, BK241.out, BK249.out, BK257.out, BK268.out, BK275.out, GW275.out, GE275.out, NB232_275.out, NB275_232.out, NB233_275.out, NB275_233.out, NB241_275.out, NB275_241.out, NB249_275.out, NB275_249.out, NB257_275.out, NB275_257.out, NB268_275.out, NB275_268.out, (by repeat (first | (with_reducible first | exact HB.out | apply below_alloc | apply pw_below_drewN | apply below_drew1 | refine below_set ?_ GE232.out | refine below_set ?_ GE233.out | refine below_set ?_ GE241.out | refine below_set ?_ GE249.out | refine below_set ?_ GE257.out | refine below_set ?_ GE268.out | refine below_set ?_ GE275.out) | exact HB.out))⟩)
          ·
           skip
           refine box_step ?hg (N := 15) ?hd (cs := #[.bool false, .int .i64 0]) (t := 24) ?hr ?_; (case hd => rfl); (case hg => rfl); (case hr => first | (go_simp; done) | (go_simp; rfl))
           intro gb275 hg w125 hbox hb
           have BK275 := Aside0.mk (hbox)
           have GW275 := geb hg HB rfl
           have GE275 := geb hg HB rfl
           have NB232_275 := nbl hg BK232 rfl
           have NB275_232 := nbr hg BK232 rfl
           have NB233_275 := nbl hg BK233 rfl
           have NB275_233 := nbr hg BK233 rfl
           have NB241_275 := nbl hg BK241 rfl
           have NB275_241 := nbr hg BK241 rfl
           have NB249_275 := nbl hg BK249 rfl
           have NB275_249 := nbr hg BK249 rfl
           have NB257_275 := nbl hg BK257 rfl
           have NB275_257 := nbr hg BK257 rfl
           have NB268_275 := nbl hg BK268 rfl
           have NB275_268 := nbr hg BK268 rfl
           replace BK232 := bb BK232 hb rfl; replace BK233 := bb BK233 hb rfl; replace BK241 := bb BK241 hb rfl; replace BK249 := bb BK249 hb rfl; replace BK257 := bb BK257 hb rfl; replace BK268 := bb BK268 hb rfl; replace HB := hst HB hb rfl
           clear hb hbox hg
           refine hK.out _ _ ⟨bc BK232 0 rfl, bc BK232 1 rfl, bc BK233 0 rfl, bc BK233 1 rfl⟩ (fun hHeld => ?_)
           clear hK K
           refine norm_ (a' := ?_) ?_ ?_
           rotate_left; · (show Act.put _ (some 15) _ = _; simp only [Act.put, List.setIfInBounds_toArray, List.set_cons_zero, List.set_cons_succ, i64_w, i32_w]; rfl)
           refine one_ (i := 3) (N := some 80) #[true, true, true, true, false, true, false] rfl rfl (by kernel_rfl) (by decide) (fun K hK => ?_)
           refine goes_ Try.func14 (by kernel_rfl) rfl #[.agg #[.bool a2_0, .int .i64 a2_1]] (by rfl) rfl rfl (mapq rfl) ?_
           with_reducible refine (avermentlaw09_To.calls a2_0 a2_1 t271 t272 _ A100.out).mono ?_
           rintro e w126 ⟨rfl, hb⟩
           refine ⟨_, rfl, ?_⟩
           replace BK232 := bb BK232 hb rfl; replace BK233 := bb BK233 hb rfl; replace BK241 := bb BK241 hb rfl; replace BK249 := bb BK249 hb rfl; replace BK257 := bb BK257 hb rfl; replace BK268 := bb BK268 hb rfl; replace BK275 := bb BK275 hb rfl; replace HB := hst HB hb rfl
           (try clear hb)
           refine hK.out _ _ ⟨bc BK232 0 rfl, bc BK232 1 rfl, bc BK233 0 rfl, bc BK233 1 rfl⟩ (fun hHeld => ?_)
           clear hK K
           refine norm_ (a' := ?_) ?_ ?_
           rotate_left; · (show Act.put _ (some 80) _ = _; simp only [Act.put, List.setIfInBounds_toArray, List.set_cons_zero, List.set_cons_succ, i64_w, i32_w]; rfl)
           refine one_ (i := 4) (N := some 81) #[true, true, true, true, true, true, false] rfl rfl (by kernel_rfl) (by decide) (fun K hK => ?_)
           refine goes_ Try.func23 (by kernel_rfl) rfl #[.agg #[.bool t269, .int .i64 t270], .agg #[.bool t271, .int .i64 t272]] (by rfl) rfl rfl (mapq rfl) ?_
           with_reducible refine (known_Join.calls t269 t270 t271 t272 t273 t274 _ A101.out).mono ?_
           rintro e w127 ⟨rfl, hb⟩
           refine ⟨_, rfl, ?_⟩
           replace BK232 := bb BK232 hb rfl; replace BK233 := bb BK233 hb rfl; replace BK241 := bb BK241 hb rfl; replace BK249 := bb BK249 hb rfl; replace BK257 := bb BK257 hb rfl; replace BK268 := bb BK268 hb rfl; replace BK275 := bb BK275 hb rfl; replace HB := hst HB hb rfl
           (try clear hb)
           refine hK.out _ _ ⟨bc BK232 0 rfl, bc BK232 1 rfl, bc BK233 0 rfl, bc BK233 1 rfl⟩ (fun hHeld => ?_)
           clear hK K
           refine norm_ (a' := ?_) ?_ ?_
           rotate_left; · (show Act.put _ (some 81) _ = _; simp only [Act.put, List.setIfInBounds_toArray, List.set_cons_zero, List.set_cons_succ, i64_w, i32_w]; rfl)
           exact norm_ (by simp only [putAll, Act.put, List.setIfInBounds_toArray, List.set_cons_zero, List.set_cons_succ]) (hCont (gb275) _ ⟨hHeld, BK232.out, BK233.out, BK241.out, BK249.out, BK257.out, BK268.out, BK275.out, GW275.out, GE275.out, NB232_275.out, NB275_232.out, NB233_275.out, NB275_233.out, NB241_275.out, NB275_241.out, NB249_275.out, NB275_249.out, NB257_275.out, NB275_257.out, NB268_275.out, NB275_268.out, (by repeat (first | (with_reducible first | exact HB.out | apply below_alloc | apply pw_below_drewN | apply below_drew1 | refine below_set ?_ GE232.out | refine below_set ?_ GE233.out | refine below_set ?_ GE241.out | refine below_set ?_ GE249.out | refine below_set ?_ GE257.out | refine below_set ?_ GE268.out | refine below_set ?_ GE275.out) | exact HB.out))⟩)
         ·
          skip
          refine box_step ?hg (N := 15) ?hd (cs := #[.bool false, .int .i64 0]) (t := 24) ?hr ?_; (case hd => rfl); (case hg => rfl); (case hr => first | (go_simp; done) | (go_simp; rfl))
          intro gb275 hg w124 hbox hb
          have BK275 := Aside0.mk (hbox)
          have GW275 := geb hg HB rfl
          have GE275 := geb hg HB rfl
          have NB232_275 := nbl hg BK232 rfl
          have NB275_232 := nbr hg BK232 rfl
          have NB233_275 := nbl hg BK233 rfl
          have NB275_233 := nbr hg BK233 rfl
          have NB241_275 := nbl hg BK241 rfl
          have NB275_241 := nbr hg BK241 rfl
          have NB249_275 := nbl hg BK249 rfl
          have NB275_249 := nbr hg BK249 rfl
          have NB257_275 := nbl hg BK257 rfl
          have NB275_257 := nbr hg BK257 rfl
          have NB268_275 := nbl hg BK268 rfl
          have NB275_268 := nbr hg BK268 rfl
          replace BK232 := bb BK232 hb rfl; replace BK233 := bb BK233 hb rfl; replace BK241 := bb BK241 hb rfl; replace BK249 := bb BK249 hb rfl; replace BK257 := bb BK257 hb rfl; replace BK268 := bb BK268 hb rfl; replace HB := hst HB hb rfl
          clear hb hbox hg
          refine hK.out _ _ ⟨bc BK232 0 rfl, bc BK232 1 rfl, bc BK233 0 rfl, bc BK233 1 rfl⟩ (fun hHeld => ?_)
          clear hK K
          refine norm_ (a' := ?_) ?_ ?_
          rotate_left; · (show Act.put _ (some 15) _ = _; simp only [Act.put, List.setIfInBounds_toArray, List.set_cons_zero, List.set_cons_succ, i64_w, i32_w]; rfl)
          refine one_ (i := 1) (N := some 78) #[true, true, true, false, false, true, false] rfl rfl (by kernel_rfl) (by decide) (fun K hK => ?_)
          refine goes_ Try.func14 (by kernel_rfl) rfl #[.agg #[.bool a1_0, .int .i64 a1_1]] (by rfl) rfl rfl (mapq rfl) ?_
          with_reducible refine (avermentlaw09_To.calls a1_0 a1_1 t269 t270 _ A99.out).mono ?_
          rintro e w125 ⟨rfl, hb⟩
          refine ⟨_, rfl, ?_⟩
          replace BK232 := bb BK232 hb rfl; replace BK233 := bb BK233 hb rfl; replace BK241 := bb BK241 hb rfl; replace BK249 := bb BK249 hb rfl; replace BK257 := bb BK257 hb rfl; replace BK268 := bb BK268 hb rfl; replace BK275 := bb BK275 hb rfl; replace HB := hst HB hb rfl
          (try clear hb)
          refine hK.out _ _ ⟨bc BK232 0 rfl, bc BK232 1 rfl, bc BK233 0 rfl, bc BK233 1 rfl⟩ (fun hHeld => ?_)
          clear hK K
          refine norm_ (a' := ?_) ?_ ?_
          rotate_left; · (show Act.put _ (some 78) _ = _; simp only [Act.put, List.setIfInBounds_toArray, List.set_cons_zero, List.set_cons_succ, i64_w, i32_w]; rfl)
          refine one_ (i := 3) (N := some 80) #[true, true, true, true, false, true, false] rfl rfl (by kernel_rfl) (by decide) (fun K hK => ?_)
          refine goes_ Try.func14 (by kernel_rfl) rfl #[.agg #[.bool a2_0, .int .i64 a2_1]] (by rfl) rfl rfl (mapq rfl) ?_
          with_reducible refine (avermentlaw09_To.calls a2_0 a2_1 t271 t272 _ A100.out).mono ?_
          rintro e w126 ⟨rfl, hb⟩
          refine ⟨_, rfl, ?_⟩
          replace BK232 := bb BK232 hb rfl; replace BK233 := bb BK233 hb rfl; replace BK241 := bb BK241 hb rfl; replace BK249 := bb BK249 hb rfl; replace BK257 := bb BK257 hb rfl; replace BK268 := bb BK268 hb rfl; replace BK275 := bb BK275 hb rfl; replace HB := hst HB hb rfl
          (try clear hb)
          refine hK.out _ _ ⟨bc BK232 0 rfl, bc BK232 1 rfl, bc BK233 0 rfl, bc BK233 1 rfl⟩ (fun hHeld => ?_)
          clear hK K
          refine norm_ (a' := ?_) ?_ ?_
          rotate_left; · (show Act.put _ (some 80) _ = _; simp only [Act.put, List.setIfInBounds_toArray, List.set_cons_zero, List.set_cons_succ, i64_w, i32_w]; rfl)
          refine one_ (i := 4) (N := some 81) #[true, true, true, true, true, true, false] rfl rfl (by kernel_rfl) (by decide) (fun K hK => ?_)
          refine goes_ Try.func23 (by kernel_rfl) rfl #[.agg #[.bool t269, .int .i64 t270], .agg #[.bool t271, .int .i64 t272]] (by rfl) rfl rfl (mapq rfl) ?_
          with_reducible refine (known_Join.calls t269 t270 t271 t272 t273 t274 _ A101.out).mono ?_
          rintro e w127 ⟨rfl, hb⟩
          refine ⟨_, rfl, ?_⟩
          replace BK232 := bb BK232 hb rfl; replace BK233 := bb BK233 hb rfl; replace BK241 := bb BK241 hb rfl; replace BK249 := bb BK249 hb rfl; replace BK257 := bb BK257 hb rfl; replace BK268 := bb BK268 hb rfl; replace BK275 := bb BK275 hb rfl; replace HB := hst HB hb rfl
          (try clear hb)
          refine hK.out _ _ ⟨bc BK232 0 rfl, bc BK232 1 rfl, bc BK233 0 rfl, bc BK233 1 rfl⟩ (fun hHeld => ?_)
          clear hK K
          refine norm_ (a' := ?_) ?_ ?_
          rotate_left; · (show Act.put _ (some 81) _ = _; simp only [Act.put, List.setIfInBounds_toArray, List.set_cons_zero, List.set_cons_succ, i64_w, i32_w]; rfl)
          exact norm_ (by simp only [putAll, Act.put, List.setIfInBounds_toArray, List.set_cons_zero, List.set_cons_succ]) (hCont (gb275) _ ⟨hHeld, BK232.out, BK233.out, BK241.out, BK249.out, BK257.out, BK268.out, BK275.out, GW275.out, GE275.out, NB232_275.out, NB275_232.out, NB233_275.out, NB275_233.out, NB241_275.out, NB275_241.out, NB249_275.out, NB275_249.out, NB257_275.out, NB275_257.out, NB268_275.out, NB275_268.out, (by repeat (first | (with_reducible first | exact HB.out | apply below_alloc | apply pw_below_drewN | apply below_drew1 | refine below_set ?_ GE232.out | refine below_set ?_ GE233.out | refine below_set ?_ GE241.out | refine below_set ?_ GE249.out | refine below_set ?_ GE257.out | refine below_set ?_ GE268.out | refine below_set ?_ GE275.out) | exact HB.out))⟩)
        rintro gb275 w128 ⟨hS_, h0_, h1_, h2_, h3_, h4_, h5_, h6_, h7_, h8_, h9_, h10_, h11_, h12_, h13_, h14_, h15_, h16_, h17_, h18_, h19_, h20_, h21_⟩
        have n0_ : Aside0 (w128.heap[gb232]? = some (.cells #[.bool a1_0, .int .i64 a1_1] 23 (0, 0))) := ⟨h0_⟩
        have n1_ : Aside0 (w128.heap[gb233]? = some (.cells #[.bool a2_0, .int .i64 a2_1] 23 (0, 0))) := ⟨h1_⟩
        have n2_ : Aside0 (w128.heap[gb241]? = some (.cells #[.bool t238, .int .i64 t239] 24 (0, 0))) := ⟨h2_⟩
        have n3_ : Aside0 (w128.heap[gb249]? = some (.cells #[.bool t246, .int .i64 t247] 24 (0, 0))) := ⟨h3_⟩
        have n4_ : Aside0 (w128.heap[gb257]? = some (.cells #[.bool t254, .int .i64 t255] 24 (0, 0))) := ⟨h4_⟩
        have n5_ : Aside0 (w128.heap[gb268]? = some (.cells #[.bool t265, .int .i64 t266] 24 (0, 0))) := ⟨h5_⟩
        have n6_ : Aside0 (w128.heap[gb275]? = some (.cells #[.bool false, .int .i64 0] 24 (0, 0))) := ⟨h6_⟩
        have n7_ : Aside0 (w.heap.size ≤ gb275) := ⟨h7_⟩
        have n8_ : Aside0 (w.heap.size ≤ gb275) := ⟨h8_⟩
        have n9_ : Aside0 (gb232 ≠ gb275) := ⟨h9_⟩
        have n10_ : Aside0 (gb275 ≠ gb232) := ⟨h10_⟩
        have n11_ : Aside0 (gb233 ≠ gb275) := ⟨h11_⟩
        have n12_ : Aside0 (gb275 ≠ gb233) := ⟨h12_⟩
        have n13_ : Aside0 (gb241 ≠ gb275) := ⟨h13_⟩
        have n14_ : Aside0 (gb275 ≠ gb241) := ⟨h14_⟩
        have n15_ : Aside0 (gb249 ≠ gb275) := ⟨h15_⟩
        have n16_ : Aside0 (gb275 ≠ gb249) := ⟨h16_⟩
        have n17_ : Aside0 (gb257 ≠ gb275) := ⟨h17_⟩
        have n18_ : Aside0 (gb275 ≠ gb257) := ⟨h18_⟩
        have n19_ : Aside0 (gb268 ≠ gb275) := ⟨h19_⟩
        have n20_ : Aside0 (gb275 ≠ gb268) := ⟨h20_⟩
        have n21_ : Aside0 (Below w.heap.size w w128) := ⟨h21_⟩
        clear BK232
        clear BK233
        clear BK241
        clear BK249
        clear BK257
        clear BK268
        clear HB
        clear h0_ h1_ h2_ h3_ h4_ h5_ h6_ h7_ h8_ h9_ h10_ h11_ h12_ h13_ h14_ h15_ h16_ h17_ h18_ h19_ h20_ h21_
        have BK232 := n0_
        have BK233 := n1_
        have BK241 := n2_
        have BK249 := n3_
        have BK257 := n4_
        have BK268 := n5_
        have BK275 := n6_
        have GW275 := n7_
        have GE275 := n8_
        have NB232_275 := n9_
        have NB275_232 := n10_
        have NB233_275 := n11_
        have NB275_233 := n12_
        have NB241_275 := n13_
        have NB275_241 := n14_
        have NB249_275 := n15_
        have NB275_249 := n16_
        have NB257_275 := n17_
        have NB275_257 := n18_
        have NB268_275 := n19_
        have NB275_268 := n20_
        have HB := n21_
        clear n0_ n1_ n2_ n3_ n4_ n5_ n6_ n7_ n8_ n9_ n10_ n11_ n12_ n13_ n14_ n15_ n16_ n17_ n18_ n19_ n20_ n21_
        have hHeld : w128.cell? ⟨gb232, 0, none⟩ = some (.bool a1_0) ∧ w128.cell? ⟨gb232, 1, none⟩ = some (.int .i64 a1_1) ∧ w128.cell? ⟨gb233, 0, none⟩ = some (.bool a2_0) ∧ w128.cell? ⟨gb233, 1, none⟩ = some (.int .i64 a2_1) := hS_
        refine norm_ (a' := ?_) ?_ ?_
        rotate_left
        ·
         simp only [putAll, Act.put, List.setIfInBounds_toArray, List.set_cons_zero, List.set_cons_succ]
         rfl
        refine one_ (i := 6) (N := none) #[true, true, true, true, true, true, true] rfl rfl (by kernel_rfl) (by decide) (fun K hK => ?_)
        have hs129 : w128.cell? ⟨gb275, 0, none⟩ = some (.bool false) := bc BK275 0 rfl
        have hfs129 := blk_frozen BK275.out 0
        have hns129_0 := NB232_275.out
        have hns129_1 := NB233_275.out
        have hns129_2 := NB241_275.out
        have hns129_3 := NB249_275.out
        have hns129_4 := NB257_275.out
        have hns129_5 := NB268_275.out
        have hms129_0 := NB275_232.out
        have hms129_1 := NB275_233.out
        have hms129_2 := NB275_241.out
        have hms129_3 := NB275_249.out
        have hms129_4 := NB275_257.out
        have hms129_5 := NB275_268.out
        have hs130 : w128.cell? ⟨gb275, 1, none⟩ = some (.int .i64 0) := bc BK275 1 rfl
        have hfs130 := blk_frozen BK275.out 1
        have hns130_0 := NB232_275.out
        have hns130_1 := NB233_275.out
        have hns130_2 := NB241_275.out
        have hns130_3 := NB249_275.out
        have hns130_4 := NB257_275.out
        have hns130_5 := NB268_275.out
        have hms130_0 := NB275_232.out
        have hms130_1 := NB275_233.out
        have hms130_2 := NB275_241.out
        have hms130_3 := NB275_249.out
        have hms130_4 := NB275_257.out
        have hms130_5 := NB275_268.out
        refine skip_ (w1 := ?_) (by rfl) rfl ?_ ?_
        rotate_left
        ·
         go_simp
         rfl
        refine hK.out _ _ ⟨((cell_far (p := ⟨gb275, _, none⟩) NB232_275.out _).trans (((cell_far (p := ⟨gb275, _, none⟩) NB232_275.out _).trans (hHeld.1)))), ((cell_far (p := ⟨gb275, _, none⟩) NB232_275.out _).trans (((cell_far (p := ⟨gb275, _, none⟩) NB232_275.out _).trans (hHeld.2.1)))), ((cell_far (p := ⟨gb275, _, none⟩) NB233_275.out _).trans (((cell_far (p := ⟨gb275, _, none⟩) NB233_275.out _).trans (hHeld.2.2.1)))), ((cell_far (p := ⟨gb275, _, none⟩) NB233_275.out _).trans (((cell_far (p := ⟨gb275, _, none⟩) NB233_275.out _).trans (hHeld.2.2.2))))⟩ (fun hHeld => ?_)
        clear hK K
        refine done_ (by kernel_rfl) ?_
        try go_wp2
        have n0_ : Aside0 (((w128.setCell ⟨gb275, 0, none⟩ (.bool t273)).setCell ⟨gb275, 1, none⟩ (.int .i64 t274)).heap[gb232]? = some (.cells #[.bool a1_0, .int .i64 a1_1] 23 (0, 0))) := ⟨by (with_reducible repeat (first | refine blk_drewN ?_ _ | refine blk_drew ?_ | refine blk_alloc ?_ _)); refine blk_far ?_ NB232_275.out _; (with_reducible repeat (first | refine blk_drewN ?_ _ | refine blk_drew ?_ | refine blk_alloc ?_ _)); refine blk_far ?_ NB232_275.out _; (with_reducible repeat (first | refine blk_drewN ?_ _ | refine blk_drew ?_ | refine blk_alloc ?_ _)); exact BK232.out⟩
        have n1_ : Aside0 (((w128.setCell ⟨gb275, 0, none⟩ (.bool t273)).setCell ⟨gb275, 1, none⟩ (.int .i64 t274)).heap[gb233]? = some (.cells #[.bool a2_0, .int .i64 a2_1] 23 (0, 0))) := ⟨by (with_reducible repeat (first | refine blk_drewN ?_ _ | refine blk_drew ?_ | refine blk_alloc ?_ _)); refine blk_far ?_ NB233_275.out _; (with_reducible repeat (first | refine blk_drewN ?_ _ | refine blk_drew ?_ | refine blk_alloc ?_ _)); refine blk_far ?_ NB233_275.out _; (with_reducible repeat (first | refine blk_drewN ?_ _ | refine blk_drew ?_ | refine blk_alloc ?_ _)); exact BK233.out⟩
        have n2_ : Aside0 (((w128.setCell ⟨gb275, 0, none⟩ (.bool t273)).setCell ⟨gb275, 1, none⟩ (.int .i64 t274)).heap[gb241]? = some (.cells #[.bool t238, .int .i64 t239] 24 (0, 0))) := ⟨by (with_reducible repeat (first | refine blk_drewN ?_ _ | refine blk_drew ?_ | refine blk_alloc ?_ _)); refine blk_far ?_ NB241_275.out _; (with_reducible repeat (first | refine blk_drewN ?_ _ | refine blk_drew ?_ | refine blk_alloc ?_ _)); refine blk_far ?_ NB241_275.out _; (with_reducible repeat (first | refine blk_drewN ?_ _ | refine blk_drew ?_ | refine blk_alloc ?_ _)); exact BK241.out⟩
        have n3_ : Aside0 (((w128.setCell ⟨gb275, 0, none⟩ (.bool t273)).setCell ⟨gb275, 1, none⟩ (.int .i64 t274)).heap[gb249]? = some (.cells #[.bool t246, .int .i64 t247] 24 (0, 0))) := ⟨by (with_reducible repeat (first | refine blk_drewN ?_ _ | refine blk_drew ?_ | refine blk_alloc ?_ _)); refine blk_far ?_ NB249_275.out _; (with_reducible repeat (first | refine blk_drewN ?_ _ | refine blk_drew ?_ | refine blk_alloc ?_ _)); refine blk_far ?_ NB249_275.out _; (with_reducible repeat (first | refine blk_drewN ?_ _ | refine blk_drew ?_ | refine blk_alloc ?_ _)); exact BK249.out⟩
        have n4_ : Aside0 (((w128.setCell ⟨gb275, 0, none⟩ (.bool t273)).setCell ⟨gb275, 1, none⟩ (.int .i64 t274)).heap[gb257]? = some (.cells #[.bool t254, .int .i64 t255] 24 (0, 0))) := ⟨by (with_reducible repeat (first | refine blk_drewN ?_ _ | refine blk_drew ?_ | refine blk_alloc ?_ _)); refine blk_far ?_ NB257_275.out _; (with_reducible repeat (first | refine blk_drewN ?_ _ | refine blk_drew ?_ | refine blk_alloc ?_ _)); refine blk_far ?_ NB257_275.out _; (with_reducible repeat (first | refine blk_drewN ?_ _ | refine blk_drew ?_ | refine blk_alloc ?_ _)); exact BK257.out⟩
        have n5_ : Aside0 (((w128.setCell ⟨gb275, 0, none⟩ (.bool t273)).setCell ⟨gb275, 1, none⟩ (.int .i64 t274)).heap[gb268]? = some (.cells #[.bool t265, .int .i64 t266] 24 (0, 0))) := ⟨by (with_reducible repeat (first | refine blk_drewN ?_ _ | refine blk_drew ?_ | refine blk_alloc ?_ _)); refine blk_far ?_ NB268_275.out _; (with_reducible repeat (first | refine blk_drewN ?_ _ | refine blk_drew ?_ | refine blk_alloc ?_ _)); refine blk_far ?_ NB268_275.out _; (with_reducible repeat (first | refine blk_drewN ?_ _ | refine blk_drew ?_ | refine blk_alloc ?_ _)); exact BK268.out⟩
        have n6_ : Aside0 (((w128.setCell ⟨gb275, 0, none⟩ (.bool t273)).setCell ⟨gb275, 1, none⟩ (.int .i64 t274)).heap[gb275]? = some (.cells #[.bool t273, .int .i64 t274] 24 (0, 0))) := ⟨by (with_reducible repeat (first | refine blk_drewN ?_ _ | refine blk_drew ?_ | refine blk_alloc ?_ _)); refine blk_put (cs := #[.bool t273, .int .i64 0]) ?_ 1 _ rfl; (with_reducible repeat (first | refine blk_drewN ?_ _ | refine blk_drew ?_ | refine blk_alloc ?_ _)); refine blk_put (cs := #[.bool false, .int .i64 0]) ?_ 0 _ rfl; (with_reducible repeat (first | refine blk_drewN ?_ _ | refine blk_drew ?_ | refine blk_alloc ?_ _)); exact BK275.out⟩
        have n7_ : Aside0 (Below w.heap.size w ((w128.setCell ⟨gb275, 0, none⟩ (.bool t273)).setCell ⟨gb275, 1, none⟩ (.int .i64 t274))) := ⟨by repeat (first | (with_reducible first | exact HB.out | apply below_alloc | apply pw_below_drewN | apply below_drew1 | refine below_set ?_ GE232.out | refine below_set ?_ GE233.out | refine below_set ?_ GE241.out | refine below_set ?_ GE249.out | refine below_set ?_ GE257.out | refine below_set ?_ GE268.out | refine below_set ?_ GE275.out) | exact HB.out)⟩
        (try clear BK232)
        (try clear BK233)
        (try clear BK241)
        (try clear BK249)
        (try clear BK257)
        (try clear BK268)
        (try clear BK275)
        (try clear HB)
        generalize ((w128.setCell ⟨gb275, 0, none⟩ (.bool t273)).setCell ⟨gb275, 1, none⟩ (.int .i64 t274)) = w131 at n0_ n1_ n2_ n3_ n4_ n5_ n6_ n7_ ⊢
        have BK232 := n0_
        have BK233 := n1_
        have BK241 := n2_
        have BK249 := n3_
        have BK257 := n4_
        have BK268 := n5_
        have BK275 := n6_
        have HB := n7_
        clear n0_ n1_ n2_ n3_ n4_ n5_ n6_ n7_
        replace BK232 := Aside0.mk (blk_drew BK232.out); replace BK233 := Aside0.mk (blk_drew BK233.out); replace BK241 := Aside0.mk (blk_drew BK241.out); replace BK249 := Aside0.mk (blk_drew BK249.out); replace BK257 := Aside0.mk (blk_drew BK257.out); replace BK268 := Aside0.mk (blk_drew BK268.out); replace BK275 := Aside0.mk (blk_drew BK275.out); replace HB := Aside0.mk (below_drew1 HB.out)
        refine start_ (n := 27) (S := fun w' => w'.cell? ⟨gb268, 0, none⟩ = some (.bool t265) ∧ w'.cell? ⟨gb268, 1, none⟩ = some (.int .i64 t266) ∧ w'.cell? ⟨gb232, 0, none⟩ = some (.bool a1_0) ∧ w'.cell? ⟨gb232, 1, none⟩ = some (.int .i64 a1_1) ∧ w'.cell? ⟨gb233, 0, none⟩ = some (.bool a2_0) ∧ w'.cell? ⟨gb233, 1, none⟩ = some (.int .i64 a2_1) ∧ w'.cell? ⟨gb275, 0, none⟩ = some (.bool t273) ∧ w'.cell? ⟨gb275, 1, none⟩ = some (.int .i64 t274)) (ds := []) #[false, false, false, false, false, false, false, false, false, false, false, false, false, false, false, false, false, false, false, false, false, false, false, false, false, false, false] (by kernel_rfl) rfl rfl ⟨bc BK268 0 rfl, bc BK268 1 rfl, bc BK232 0 rfl, bc BK232 1 rfl, bc BK233 0 rfl, bc BK233 1 rfl, bc BK275 0 rfl, bc BK275 1 rfl⟩ (fun hHeld => ?_); refine with_tabW avermentlaw09_KnownRises.tab8 avermentlaw09_KnownRises.bits8 (fun HT_ HW_ => ?_)
        generalize w131.drew = w132 at BK232 BK233 BK241 BK249 BK257 BK268 BK275 HB hHeld ⊢
        refine pure_ (i := 0) (N := some 82) (v := ?_) (a' := ?_) #[true, false, false, false, false, false, false, false, false, false, false, false, false, false, false, false, false, false, false, false, false, false, false, false, false, false, false] rfl rfl (any_of HT_.out (by kernel_rfl)) (fun _ _ _ h => h) (Or.inl ⟨by rfl, ?_⟩) ?_ ?_
        rotate_left; · (intro w'; go_simp; with_reducible rfl)
        rotate_left; · (simp only [Act.put, List.setIfInBounds_toArray, List.set_cons_zero, List.set_cons_succ, i64_w, i32_w]; rfl)
        refine pure_ (i := 1) (N := some 83) (v := ?_) (a' := ?_) #[true, true, false, false, false, false, false, false, false, false, false, false, false, false, false, false, false, false, false, false, false, false, false, false, false, false, false] rfl rfl (any_of HT_.out (by kernel_rfl)) (fun _ _ _ h => h) (Or.inl ⟨by rfl, ?_⟩) ?_ ?_
        rotate_left; · (intro w'; go_simp; with_reducible rfl)
        rotate_left; · (simp only [Act.put, List.setIfInBounds_toArray, List.set_cons_zero, List.set_cons_succ, i64_w, i32_w]; rfl)
        refine pure_ (i := 2) (N := some 84) (v := ?_) (a' := ?_) #[true, true, true, false, false, false, false, false, false, false, false, false, false, false, false, false, false, false, false, false, false, false, false, false, false, false, false] rfl rfl (any_of HT_.out (by kernel_rfl)) (fun _ _ _ h => h) (Or.inl ⟨by rfl, ?_⟩) ?_ ?_
        rotate_left; · (intro w'; go_simp; with_reducible rfl)
        rotate_left; · (simp only [Act.put, List.setIfInBounds_toArray, List.set_cons_zero, List.set_cons_succ, i64_w, i32_w]; rfl)
        refine take_ (i := 3) (N := some 85) (v := ?_) (a' := ?_) #[true, true, true, true, false, false, false, false, false, false, false, false, false, false, false, false, false, false, false, false, false, false, false, false, false, false, false] rfl rfl (take_ofW HT_.out HW_.out (by kernel_rfl)) (fun _ _ _ h => h) (Or.inl ⟨by rfl, ?_⟩) hHeld ?_ ?_
        rotate_left
        ·
         rintro w' ⟨s0, s1, s2, s3, s4, s5, s6, s7⟩
         go_simp
         with_reducible rfl
        rotate_left
        ·
         simp only [Act.put, List.setIfInBounds_toArray, List.set_cons_zero, List.set_cons_succ, i64_w, i32_w]
         rfl
        refine take_ (i := 4) (N := some 86) (v := ?_) (a' := ?_) #[true, true, true, true, true, false, false, false, false, false, false, false, false, false, false, false, false, false, false, false, false, false, false, false, false, false, false] rfl rfl (take_ofW HT_.out HW_.out (by kernel_rfl)) (fun _ _ _ h => h) (Or.inl ⟨by rfl, ?_⟩) hHeld ?_ ?_
        rotate_left
        ·
         rintro w' ⟨s0, s1, s2, s3, s4, s5, s6, s7⟩
         go_simp
         with_reducible rfl
        rotate_left
        ·
         simp only [Act.put, List.setIfInBounds_toArray, List.set_cons_zero, List.set_cons_succ, i64_w, i32_w]
         rfl
        refine one_ (i := 5) (N := some 87) #[true, true, true, true, true, true, false, false, false, false, false, false, false, false, false, false, false, false, false, false, false, false, false, false, false, false, false] rfl rfl (one_of HT_.out (by kernel_rfl)) (by decide) (fun K hK => ?_)
        refine goes_ Try.func14 (by kernel_rfl) rfl #[.agg #[.bool a1_0, .int .i64 a1_1]] (by rfl) rfl rfl (mapq rfl) ?_
        with_reducible refine (avermentlaw09_To.calls a1_0 a1_1 t276 t277 _ A103.out).mono ?_
        rintro e w133 ⟨rfl, hb⟩
        refine ⟨_, rfl, ?_⟩
        replace BK232 := bb BK232 hb rfl; replace BK233 := bb BK233 hb rfl; replace BK241 := bb BK241 hb rfl; replace BK249 := bb BK249 hb rfl; replace BK257 := bb BK257 hb rfl; replace BK268 := bb BK268 hb rfl; replace BK275 := bb BK275 hb rfl; replace HB := hst HB hb rfl
        (try clear hb)
        refine hK.out _ _ ⟨bc BK268 0 rfl, bc BK268 1 rfl, bc BK232 0 rfl, bc BK232 1 rfl, bc BK233 0 rfl, bc BK233 1 rfl, bc BK275 0 rfl, bc BK275 1 rfl⟩ (fun hHeld => ?_)
        clear hK K
        refine norm_ (a' := ?_) ?_ ?_
        rotate_left; · (show Act.put _ (some 87) _ = _; simp only [Act.put, List.setIfInBounds_toArray, List.set_cons_zero, List.set_cons_succ, i64_w, i32_w]; rfl)
        refine one_ (i := 6) (N := some 88) #[true, true, true, true, true, true, true, false, false, false, false, false, false, false, false, false, false, false, false, false, false, false, false, false, false, false, false] rfl rfl (one_of HT_.out (by kernel_rfl)) (by decide) (fun K hK => ?_)
        refine goes_ Try.func25 (by kernel_rfl) rfl #[.agg #[.bool t265, .int .i64 t266], .agg #[.bool t276, .int .i64 t277]] (by rfl) rfl rfl (mapq rfl) ?_
        with_reducible refine (known_Within.calls t265 t266 t276 t277 true _ A104.out).mono ?_
        rintro e w134 ⟨rfl, hb⟩
        refine ⟨_, rfl, ?_⟩
        replace BK232 := bb BK232 hb rfl; replace BK233 := bb BK233 hb rfl; replace BK241 := bb BK241 hb rfl; replace BK249 := bb BK249 hb rfl; replace BK257 := bb BK257 hb rfl; replace BK268 := bb BK268 hb rfl; replace BK275 := bb BK275 hb rfl; replace HB := hst HB hb rfl
        (try clear hb)
        refine hK.out _ _ ⟨bc BK268 0 rfl, bc BK268 1 rfl, bc BK232 0 rfl, bc BK232 1 rfl, bc BK233 0 rfl, bc BK233 1 rfl, bc BK275 0 rfl, bc BK275 1 rfl⟩ (fun hHeld => ?_)
        clear hK K
        refine norm_ (a' := ?_) ?_ ?_
        rotate_left; · (show Act.put _ (some 88) _ = _; simp only [Act.put, List.setIfInBounds_toArray, List.set_cons_zero, List.set_cons_succ, i64_w, i32_w]; rfl)
        refine pure_ (i := 7) (N := some 89) (v := ?_) (a' := ?_) #[true, true, true, true, true, true, true, true, false, false, false, false, false, false, false, false, false, false, false, false, false, false, false, false, false, false, false] rfl rfl (any_of HT_.out (by kernel_rfl)) (fun _ _ _ h => h) (Or.inl ⟨by rfl, ?_⟩) ?_ ?_
        rotate_left; · (intro w'; go_simp; with_reducible rfl)
        rotate_left; · (simp only [Act.put, List.setIfInBounds_toArray, List.set_cons_zero, List.set_cons_succ, i64_w, i32_w]; rfl)
        refine take_ (i := 8) (N := some 90) (v := ?_) (a' := ?_) #[true, true, true, true, true, true, true, true, true, false, false, false, false, false, false, false, false, false, false, false, false, false, false, false, false, false, false] rfl rfl (take_ofW HT_.out HW_.out (by kernel_rfl)) (fun _ _ _ h => h) (Or.inl ⟨by rfl, ?_⟩) hHeld ?_ ?_
        rotate_left
        ·
         rintro w' ⟨s0, s1, s2, s3, s4, s5, s6, s7⟩
         go_simp
         with_reducible rfl
        rotate_left
        ·
         simp only [Act.put, List.setIfInBounds_toArray, List.set_cons_zero, List.set_cons_succ, i64_w, i32_w]
         rfl
        refine take_ (i := 9) (N := some 91) (v := ?_) (a' := ?_) #[true, true, true, true, true, true, true, true, true, true, false, false, false, false, false, false, false, false, false, false, false, false, false, false, false, false, false] rfl rfl (take_ofW HT_.out HW_.out (by kernel_rfl)) (fun _ _ _ h => h) (Or.inl ⟨by rfl, ?_⟩) hHeld ?_ ?_
        rotate_left
        ·
         rintro w' ⟨s0, s1, s2, s3, s4, s5, s6, s7⟩
         go_simp
         with_reducible rfl
        rotate_left
        ·
         simp only [Act.put, List.setIfInBounds_toArray, List.set_cons_zero, List.set_cons_succ, i64_w, i32_w]
         rfl
        refine one_ (i := 10) (N := some 92) #[true, true, true, true, true, true, true, true, true, true, true, false, false, false, false, false, false, false, false, false, false, false, false, false, false, false, false] rfl rfl (one_of HT_.out (by kernel_rfl)) (by decide) (fun K hK => ?_)
        refine goes_ Try.func14 (by kernel_rfl) rfl #[.agg #[.bool a2_0, .int .i64 a2_1]] (by rfl) rfl rfl (mapq rfl) ?_
        with_reducible refine (avermentlaw09_To.calls a2_0 a2_1 t279 t280 _ A106.out).mono ?_
        rintro e w135 ⟨rfl, hb⟩
        refine ⟨_, rfl, ?_⟩
        replace BK232 := bb BK232 hb rfl; replace BK233 := bb BK233 hb rfl; replace BK241 := bb BK241 hb rfl; replace BK249 := bb BK249 hb rfl; replace BK257 := bb BK257 hb rfl; replace BK268 := bb BK268 hb rfl; replace BK275 := bb BK275 hb rfl; replace HB := hst HB hb rfl
        (try clear hb)
        refine hK.out _ _ ⟨bc BK268 0 rfl, bc BK268 1 rfl, bc BK232 0 rfl, bc BK232 1 rfl, bc BK233 0 rfl, bc BK233 1 rfl, bc BK275 0 rfl, bc BK275 1 rfl⟩ (fun hHeld => ?_)
        clear hK K
        refine norm_ (a' := ?_) ?_ ?_
        rotate_left; · (show Act.put _ (some 92) _ = _; simp only [Act.put, List.setIfInBounds_toArray, List.set_cons_zero, List.set_cons_succ, i64_w, i32_w]; rfl)
        refine one_ (i := 11) (N := some 93) #[true, true, true, true, true, true, true, true, true, true, true, true, false, false, false, false, false, false, false, false, false, false, false, false, false, false, false] rfl rfl (one_of HT_.out (by kernel_rfl)) (by decide) (fun K hK => ?_)
        refine goes_ Try.func25 (by kernel_rfl) rfl #[.agg #[.bool t265, .int .i64 t266], .agg #[.bool t279, .int .i64 t280]] (by rfl) rfl rfl (mapq rfl) ?_
        with_reducible refine (known_Within.calls t265 t266 t279 t280 true _ A107.out).mono ?_
        rintro e w136 ⟨rfl, hb⟩
        refine ⟨_, rfl, ?_⟩
        replace BK232 := bb BK232 hb rfl; replace BK233 := bb BK233 hb rfl; replace BK241 := bb BK241 hb rfl; replace BK249 := bb BK249 hb rfl; replace BK257 := bb BK257 hb rfl; replace BK268 := bb BK268 hb rfl; replace BK275 := bb BK275 hb rfl; replace HB := hst HB hb rfl
        (try clear hb)
        refine hK.out _ _ ⟨bc BK268 0 rfl, bc BK268 1 rfl, bc BK232 0 rfl, bc BK232 1 rfl, bc BK233 0 rfl, bc BK233 1 rfl, bc BK275 0 rfl, bc BK275 1 rfl⟩ (fun hHeld => ?_)
        clear hK K
        refine norm_ (a' := ?_) ?_ ?_
        rotate_left; · (show Act.put _ (some 93) _ = _; simp only [Act.put, List.setIfInBounds_toArray, List.set_cons_zero, List.set_cons_succ, i64_w, i32_w]; rfl)
        refine pure_ (i := 12) (N := some 94) (v := ?_) (a' := ?_) #[true, true, true, true, true, true, true, true, true, true, true, true, true, false, false, false, false, false, false, false, false, false, false, false, false, false, false] rfl rfl (any_of HT_.out (by kernel_rfl)) (fun _ _ _ h => h) (Or.inl ⟨by rfl, ?_⟩) ?_ ?_
        rotate_left; · (intro w'; go_simp; with_reducible rfl)
        rotate_left; · (simp only [Act.put, List.setIfInBounds_toArray, List.set_cons_zero, List.set_cons_succ, i64_w, i32_w]; rfl)
        refine pure_ (i := 13) (N := some 95) (v := ?_) (a' := ?_) #[true, true, true, true, true, true, true, true, true, true, true, true, true, true, false, false, false, false, false, false, false, false, false, false, false, false, false] rfl rfl (any_of HT_.out (by kernel_rfl)) (fun _ _ _ h => h) (Or.inl ⟨by rfl, ?_⟩) ?_ ?_
        rotate_left; · (intro w'; go_simp; with_reducible rfl)
        rotate_left; · (simp only [Act.put, List.setIfInBounds_toArray, List.set_cons_zero, List.set_cons_succ, i64_w, i32_w]; rfl)
        refine pure_ (i := 14) (N := some 96) (v := ?_) (a' := ?_) #[true, true, true, true, true, true, true, true, true, true, true, true, true, true, true, false, false, false, false, false, false, false, false, false, false, false, false] rfl rfl (any_of HT_.out (by kernel_rfl)) (fun _ _ _ h => h) (Or.inl ⟨by rfl, ?_⟩) ?_ ?_
        rotate_left; · (intro w'; go_simp; with_reducible rfl)
        rotate_left; · (simp only [Act.put, List.setIfInBounds_toArray, List.set_cons_zero, List.set_cons_succ, i64_w, i32_w]; rfl)
        refine take_ (i := 15) (N := some 97) (v := ?_) (a' := ?_) #[true, true, true, true, true, true, true, true, true, true, true, true, true, true, true, true, false, false, false, false, false, false, false, false, false, false, false] rfl rfl (take_ofW HT_.out HW_.out (by kernel_rfl)) (fun _ _ _ h => h) (Or.inl ⟨by rfl, ?_⟩) hHeld ?_ ?_
        rotate_left
        ·
         rintro w' ⟨s0, s1, s2, s3, s4, s5, s6, s7⟩
         go_simp
         with_reducible rfl
        rotate_left
        ·
         simp only [Act.put, List.setIfInBounds_toArray, List.set_cons_zero, List.set_cons_succ, i64_w, i32_w]
         rfl
        refine take_ (i := 17) (N := some 99) (v := ?_) (a' := ?_) #[true, true, true, true, true, true, true, true, true, true, true, true, true, true, true, true, false, true, false, false, false, false, false, false, false, false, false] rfl rfl (take_ofW HT_.out HW_.out (by kernel_rfl)) (fun _ _ _ h => h) (Or.inl ⟨by rfl, ?_⟩) hHeld ?_ ?_
        rotate_left
        ·
         rintro w' ⟨s0, s1, s2, s3, s4, s5, s6, s7⟩
         go_simp
         with_reducible rfl
        rotate_left
        ·
         simp only [Act.put, List.setIfInBounds_toArray, List.set_cons_zero, List.set_cons_succ, i64_w, i32_w]
         rfl
        refine one_ (i := 16) (N := some 98) #[true, true, true, true, true, true, true, true, true, true, true, true, true, true, true, true, true, true, false, false, false, false, false, false, false, false, false] rfl rfl (one_of HT_.out (by kernel_rfl)) (by decide) (fun K hK => ?_)
        refine goes_ Try.func14 (by kernel_rfl) rfl #[.agg #[.bool a1_0, .int .i64 a1_1]] (by rfl) rfl rfl (mapq rfl) ?_
        with_reducible refine (avermentlaw09_To.calls a1_0 a1_1 t282 t283 _ A109.out).mono ?_
        rintro e w137 ⟨rfl, hb⟩
        refine ⟨_, rfl, ?_⟩
        replace BK232 := bb BK232 hb rfl; replace BK233 := bb BK233 hb rfl; replace BK241 := bb BK241 hb rfl; replace BK249 := bb BK249 hb rfl; replace BK257 := bb BK257 hb rfl; replace BK268 := bb BK268 hb rfl; replace BK275 := bb BK275 hb rfl; replace HB := hst HB hb rfl
        (try clear hb)
        refine hK.out _ _ ⟨bc BK268 0 rfl, bc BK268 1 rfl, bc BK232 0 rfl, bc BK232 1 rfl, bc BK233 0 rfl, bc BK233 1 rfl, bc BK275 0 rfl, bc BK275 1 rfl⟩ (fun hHeld => ?_)
        clear hK K
        refine norm_ (a' := ?_) ?_ ?_
        rotate_left; · (show Act.put _ (some 98) _ = _; simp only [Act.put, List.setIfInBounds_toArray, List.set_cons_zero, List.set_cons_succ, i64_w, i32_w]; rfl)
        refine one_ (i := 18) (N := some 100) #[true, true, true, true, true, true, true, true, true, true, true, true, true, true, true, true, true, true, true, false, false, false, false, false, false, false, false] rfl rfl (one_of HT_.out (by kernel_rfl)) (by decide) (fun K hK => ?_)
        refine goes_ Try.func25 (by kernel_rfl) rfl #[.agg #[.bool t282, .int .i64 t283], .agg #[.bool t273, .int .i64 t274]] (by rfl) rfl rfl (mapq rfl) ?_
        with_reducible refine (known_Within.calls t282 t283 t273 t274 true _ A110.out).mono ?_
        rintro e w138 ⟨rfl, hb⟩
        refine ⟨_, rfl, ?_⟩
        replace BK232 := bb BK232 hb rfl; replace BK233 := bb BK233 hb rfl; replace BK241 := bb BK241 hb rfl; replace BK249 := bb BK249 hb rfl; replace BK257 := bb BK257 hb rfl; replace BK268 := bb BK268 hb rfl; replace BK275 := bb BK275 hb rfl; replace HB := hst HB hb rfl
        (try clear hb)
        refine hK.out _ _ ⟨bc BK268 0 rfl, bc BK268 1 rfl, bc BK232 0 rfl, bc BK232 1 rfl, bc BK233 0 rfl, bc BK233 1 rfl, bc BK275 0 rfl, bc BK275 1 rfl⟩ (fun hHeld => ?_)
        clear hK K
        refine norm_ (a' := ?_) ?_ ?_
        rotate_left; · (show Act.put _ (some 100) _ = _; simp only [Act.put, List.setIfInBounds_toArray, List.set_cons_zero, List.set_cons_succ, i64_w, i32_w]; rfl)
        refine pure_ (i := 19) (N := some 101) (v := ?_) (a' := ?_) #[true, true, true, true, true, true, true, true, true, true, true, true, true, true, true, true, true, true, true, true, false, false, false, false, false, false, false] rfl rfl (any_of HT_.out (by kernel_rfl)) (fun _ _ _ h => h) (Or.inl ⟨by rfl, ?_⟩) ?_ ?_
        rotate_left; · (intro w'; go_simp; with_reducible rfl)
        rotate_left; · (simp only [Act.put, List.setIfInBounds_toArray, List.set_cons_zero, List.set_cons_succ, i64_w, i32_w]; rfl)
        refine pure_ (i := 20) (N := some 102) (v := ?_) (a' := ?_) #[true, true, true, true, true, true, true, true, true, true, true, true, true, true, true, true, true, true, true, true, true, false, false, false, false, false, false] rfl rfl (any_of HT_.out (by kernel_rfl)) (fun _ _ _ h => h) (Or.inl ⟨by rfl, ?_⟩) ?_ ?_
        rotate_left; · (intro w'; go_simp; with_reducible rfl)
        rotate_left; · (simp only [Act.put, List.setIfInBounds_toArray, List.set_cons_zero, List.set_cons_succ, i64_w, i32_w]; rfl)
        refine take_ (i := 21) (N := some 103) (v := ?_) (a' := ?_) #[true, true, true, true, true, true, true, true, true, true, true, true, true, true, true, true, true, true, true, true, true, true, false, false, false, false, false] rfl rfl (take_ofW HT_.out HW_.out (by kernel_rfl)) (fun _ _ _ h => h) (Or.inl ⟨by rfl, ?_⟩) hHeld ?_ ?_
        rotate_left
        ·
         rintro w' ⟨s0, s1, s2, s3, s4, s5, s6, s7⟩
         go_simp
         with_reducible rfl
        rotate_left
        ·
         simp only [Act.put, List.setIfInBounds_toArray, List.set_cons_zero, List.set_cons_succ, i64_w, i32_w]
         rfl
        refine take_ (i := 23) (N := some 105) (v := ?_) (a' := ?_) #[true, true, true, true, true, true, true, true, true, true, true, true, true, true, true, true, true, true, true, true, true, true, false, true, false, false, false] rfl rfl (take_ofW HT_.out HW_.out (by kernel_rfl)) (fun _ _ _ h => h) (Or.inl ⟨by rfl, ?_⟩) hHeld ?_ ?_
        rotate_left
        ·
         rintro w' ⟨s0, s1, s2, s3, s4, s5, s6, s7⟩
         go_simp
         with_reducible rfl
        rotate_left
        ·
         simp only [Act.put, List.setIfInBounds_toArray, List.set_cons_zero, List.set_cons_succ, i64_w, i32_w]
         rfl
        refine one_ (i := 22) (N := some 104) #[true, true, true, true, true, true, true, true, true, true, true, true, true, true, true, true, true, true, true, true, true, true, true, true, false, false, false] rfl rfl (one_of HT_.out (by kernel_rfl)) (by decide) (fun K hK => ?_)
        refine goes_ Try.func14 (by kernel_rfl) rfl #[.agg #[.bool a2_0, .int .i64 a2_1]] (by rfl) rfl rfl (mapq rfl) ?_
        with_reducible refine (avermentlaw09_To.calls a2_0 a2_1 t285 t286 _ A112.out).mono ?_
        rintro e w139 ⟨rfl, hb⟩
        refine ⟨_, rfl, ?_⟩
        replace BK232 := bb BK232 hb rfl; replace BK233 := bb BK233 hb rfl; replace BK241 := bb BK241 hb rfl; replace BK249 := bb BK249 hb rfl; replace BK257 := bb BK257 hb rfl; replace BK268 := bb BK268 hb rfl; replace BK275 := bb BK275 hb rfl; replace HB := hst HB hb rfl
        (try clear hb)
        refine hK.out _ _ ⟨bc BK268 0 rfl, bc BK268 1 rfl, bc BK232 0 rfl, bc BK232 1 rfl, bc BK233 0 rfl, bc BK233 1 rfl, bc BK275 0 rfl, bc BK275 1 rfl⟩ (fun hHeld => ?_)
        clear hK K
        refine norm_ (a' := ?_) ?_ ?_
        rotate_left; · (show Act.put _ (some 104) _ = _; simp only [Act.put, List.setIfInBounds_toArray, List.set_cons_zero, List.set_cons_succ, i64_w, i32_w]; rfl)
        refine one_ (i := 24) (N := some 106) #[true, true, true, true, true, true, true, true, true, true, true, true, true, true, true, true, true, true, true, true, true, true, true, true, true, false, false] rfl rfl (one_of HT_.out (by kernel_rfl)) (by decide) (fun K hK => ?_)
        refine goes_ Try.func25 (by kernel_rfl) rfl #[.agg #[.bool t285, .int .i64 t286], .agg #[.bool t273, .int .i64 t274]] (by rfl) rfl rfl (mapq rfl) ?_
        with_reducible refine (known_Within.calls t285 t286 t273 t274 t287 _ A113.out).mono ?_
        rintro e w140 ⟨rfl, hb⟩
        refine ⟨_, rfl, ?_⟩
        replace BK232 := bb BK232 hb rfl; replace BK233 := bb BK233 hb rfl; replace BK241 := bb BK241 hb rfl; replace BK249 := bb BK249 hb rfl; replace BK257 := bb BK257 hb rfl; replace BK268 := bb BK268 hb rfl; replace BK275 := bb BK275 hb rfl; replace HB := hst HB hb rfl
        (try clear hb)
        refine hK.out _ _ ⟨bc BK268 0 rfl, bc BK268 1 rfl, bc BK232 0 rfl, bc BK232 1 rfl, bc BK233 0 rfl, bc BK233 1 rfl, bc BK275 0 rfl, bc BK275 1 rfl⟩ (fun hHeld => ?_)
        clear hK K
        refine norm_ (a' := ?_) ?_ ?_
        rotate_left; · (show Act.put _ (some 106) _ = _; simp only [Act.put, List.setIfInBounds_toArray, List.set_cons_zero, List.set_cons_succ, i64_w, i32_w]; rfl)
        refine pure_ (i := 25) (N := some 107) (v := ?_) (a' := ?_) #[true, true, true, true, true, true, true, true, true, true, true, true, true, true, true, true, true, true, true, true, true, true, true, true, true, true, false] rfl rfl (any_of HT_.out (by kernel_rfl)) (fun _ _ _ h => h) (Or.inl ⟨by rfl, ?_⟩) ?_ ?_
        rotate_left; · (intro w'; go_simp; with_reducible rfl)
        rotate_left; · (simp only [Act.put, List.setIfInBounds_toArray, List.set_cons_zero, List.set_cons_succ, i64_w, i32_w]; rfl)
        refine pure_ (i := 26) (N := some 6) (v := ?_) (a' := ?_) #[true, true, true, true, true, true, true, true, true, true, true, true, true, true, true, true, true, true, true, true, true, true, true, true, true, true, true] rfl rfl (any_of HT_.out (by kernel_rfl)) (fun _ _ _ h => h) (Or.inl ⟨by rfl, ?_⟩) ?_ ?_
        rotate_left; · (intro w'; go_simp; with_reducible rfl)
        rotate_left; · (simp only [Act.put, List.setIfInBounds_toArray, List.set_cons_zero, List.set_cons_succ, i64_w, i32_w]; rfl)
        refine done_ (done_of HT_.out (by kernel_rfl)) ?_
        try go_wp2
        go_ret
        exact ⟨by first | rfl | (simp [errW_none, errW_some] <;> rfl) | (simp [*, errW_none, errW_some] <;> rfl), by repeat (first | (with_reducible first | exact HB.out | apply below_alloc | apply pw_below_drewN | apply below_drew1 | refine below_set ?_ GE232.out | refine below_set ?_ GE233.out | refine below_set ?_ GE241.out | refine below_set ?_ GE249.out | refine below_set ?_ GE257.out | refine below_set ?_ GE268.out | refine below_set ?_ GE275.out) | exact HB.out)⟩
       ·
        replace c111 := Bool.eq_false_iff.mpr c111
        subst c111
        rw [if_neg (show ¬ (false = true) by decide)] at H
        exact absurd ((Option.some.inj H).trans hr_.out) (by decide)
      ·
       replace c108 := Bool.eq_false_iff.mpr c108
       subst c108
       rw [if_neg (show ¬ (false = true) by decide)] at H
       exact absurd ((Option.some.inj H).trans hr_.out) (by decide)
     ·
      replace c105 := Bool.eq_false_iff.mpr c105
      subst c105
      rw [if_neg (show ¬ (false = true) by decide)] at H
      exact absurd ((Option.some.inj H).trans hr_.out) (by decide)
    ·
     replace c102 := Bool.eq_false_iff.mpr c102
     subst c102
     rw [if_neg (show ¬ (false = true) by decide)] at H
     replace H := Option.bind_eq_some_iff.mp H
     obtain ⟨⟨t288, t289⟩, A1410, H⟩ := H
     (try dsimp only at H)
     have A141 := Aside0.mk A1410
     clear A1410
     replace H := Option.bind_eq_some_iff.mp H
     obtain ⟨t290, A1420, H⟩ := H
     (try dsimp only at H)
     have A142 := Aside0.mk A1420
     clear A1420
     by_cases c143 : t290 = true
     ·
      subst c143
      rw [if_pos rfl] at H
      replace H := Option.bind_eq_some_iff.mp H
      obtain ⟨⟨t291, t292⟩, A1440, H⟩ := H
      (try dsimp only at H)
      have A144 := Aside0.mk A1440
      clear A1440
      replace H := Option.bind_eq_some_iff.mp H
      obtain ⟨t293, A1450, H⟩ := H
      (try dsimp only at H)
      have A145 := Aside0.mk A1450
      clear A1450
      obtain rfl := Option.some.inj H
      try go_wp2
      replace BK232 := Aside0.mk (blk_drew BK232.out); replace BK233 := Aside0.mk (blk_drew BK233.out); replace BK241 := Aside0.mk (blk_drew BK241.out); replace BK249 := Aside0.mk (blk_drew BK249.out); replace BK257 := Aside0.mk (blk_drew BK257.out); replace HB := Aside0.mk (below_drew1 HB.out)
      refine start_ (n := 11) (S := fun w' => w'.cell? ⟨gb232, 0, none⟩ = some (.bool a1_0) ∧ w'.cell? ⟨gb232, 1, none⟩ = some (.int .i64 a1_1) ∧ w'.cell? ⟨gb233, 0, none⟩ = some (.bool a2_0) ∧ w'.cell? ⟨gb233, 1, none⟩ = some (.int .i64 a2_1)) (ds := []) #[false, false, false, false, false, false, false, false, false, false, false] (by kernel_rfl) rfl rfl ⟨bc BK232 0 rfl, bc BK232 1 rfl, bc BK233 0 rfl, bc BK233 1 rfl⟩ (fun hHeld => ?_); refine with_tabW avermentlaw09_KnownRises.tab6 avermentlaw09_KnownRises.bits6 (fun HT_ HW_ => ?_)
      generalize wc.drew = w146 at BK232 BK233 BK241 BK249 BK257 HB hHeld ⊢
      refine take_ (i := 0) (N := some 70) (v := ?_) (a' := ?_) #[true, false, false, false, false, false, false, false, false, false, false] rfl rfl (take_ofW HT_.out HW_.out (by kernel_rfl)) (fun _ _ _ h => h) (Or.inl ⟨by rfl, ?_⟩) hHeld ?_ ?_
      rotate_left
      ·
       rintro w' ⟨s0, s1, s2, s3⟩
       go_simp
       with_reducible rfl
      rotate_left
      ·
       simp only [Act.put, List.setIfInBounds_toArray, List.set_cons_zero, List.set_cons_succ, i64_w, i32_w]
       rfl
      refine take_ (i := 2) (N := some 72) (v := ?_) (a' := ?_) #[true, false, true, false, false, false, false, false, false, false, false] rfl rfl (take_ofW HT_.out HW_.out (by kernel_rfl)) (fun _ _ _ h => h) (Or.inl ⟨by rfl, ?_⟩) hHeld ?_ ?_
      rotate_left
      ·
       rintro w' ⟨s0, s1, s2, s3⟩
       go_simp
       with_reducible rfl
      rotate_left
      ·
       simp only [Act.put, List.setIfInBounds_toArray, List.set_cons_zero, List.set_cons_succ, i64_w, i32_w]
       rfl
      refine join_ (σ := Nat) 2 #[true, true, true, true, true, true, true, true, true, false, false] (fun s_ => [(71, .agg #[.bool t261, .int .i64 t262]), (73, .agg #[.bool t263, .int .i64 t264]), (74, .tuple #[.agg #[.bool t265, .int .i64 t266], .bool false]), (13, .pointer (some ⟨s_, 0, none⟩)), (69, .tuple #[.agg #[.bool t265, .int .i64 t266], .bool false]), (75, .agg #[.bool t265, .int .i64 t266]), (76, .bool false)]) (fun s_ w' => (w'.cell? ⟨gb232, 0, none⟩ = some (.bool a1_0) ∧ w'.cell? ⟨gb232, 1, none⟩ = some (.int .i64 a1_1) ∧ w'.cell? ⟨gb233, 0, none⟩ = some (.bool a2_0) ∧ w'.cell? ⟨gb233, 1, none⟩ = some (.int .i64 a2_1)) ∧ (w'.heap[gb232]? = some (.cells #[.bool a1_0, .int .i64 a1_1] 23 (0, 0))) ∧ (w'.heap[gb233]? = some (.cells #[.bool a2_0, .int .i64 a2_1] 23 (0, 0))) ∧ (w'.heap[gb241]? = some (.cells #[.bool t238, .int .i64 t239] 24 (0, 0))) ∧ (w'.heap[gb249]? = some (.cells #[.bool t246, .int .i64 t247] 24 (0, 0))) ∧ (w'.heap[gb257]? = some (.cells #[.bool t254, .int .i64 t255] 24 (0, 0))) ∧ (w'.heap[s_]? = some (.cells #[.bool false, .int .i64 0] 24 (0, 0))) ∧ (w.heap.size ≤ s_) ∧ (w.heap.size ≤ s_) ∧ (gb232 ≠ s_) ∧ (s_ ≠ gb232) ∧ (gb233 ≠ s_) ∧ (s_ ≠ gb233) ∧ (gb241 ≠ s_) ∧ (s_ ≠ gb241) ∧ (gb249 ≠ s_) ∧ (s_ ≠ gb249) ∧ (gb257 ≠ s_) ∧ (s_ ≠ gb257) ∧ (Below w.heap.size w w')) ?_ ?_
      rotate_left
      ·
       intro hCont
       refine two_ (i := 1) (j := 8) (Ni := some 71) (Nj := some 13) #[true, true, true, false, false, false, false, false, false, false, false] #[true, false, true, false, false, false, false, false, true, false, false] rfl rfl rfl rfl (two_of HT_.out (by kernel_rfl)) (by decide) (by decide) (fun K hK => ?_) (fun K hK => ?_)
       ·
        skip
        refine goes_ Try.func14 (by kernel_rfl) rfl #[.agg #[.bool a1_0, .int .i64 a1_1]] (by rfl) rfl rfl (mapq rfl) ?_
        with_reducible refine (avermentlaw09_To.calls a1_0 a1_1 t261 t262 _ A96.out).mono ?_
        rintro e w147 ⟨rfl, hb⟩
        refine ⟨_, rfl, ?_⟩
        replace BK232 := bb BK232 hb rfl; replace BK233 := bb BK233 hb rfl; replace BK241 := bb BK241 hb rfl; replace BK249 := bb BK249 hb rfl; replace BK257 := bb BK257 hb rfl; replace HB := hst HB hb rfl
        (try clear hb)
        refine hK.out _ _ ⟨bc BK232 0 rfl, bc BK232 1 rfl, bc BK233 0 rfl, bc BK233 1 rfl⟩ (fun hHeld => ?_)
        clear hK K
        refine norm_ (a' := ?_) ?_ ?_
        rotate_left; · (show Act.put _ (some 71) _ = _; simp only [Act.put, List.setIfInBounds_toArray, List.set_cons_zero, List.set_cons_succ, i64_w, i32_w]; rfl)
        refine two_ (i := 3) (j := 8) (Ni := some 73) (Nj := some 13) #[true, true, true, true, false, false, false, false, false, false, false] #[true, true, true, false, false, false, false, false, true, false, false] rfl rfl rfl rfl (two_of HT_.out (by kernel_rfl)) (by decide) (by decide) (fun K hK => ?_) (fun K hK => ?_)
        ·
         skip
         refine goes_ Try.func14 (by kernel_rfl) rfl #[.agg #[.bool a2_0, .int .i64 a2_1]] (by rfl) rfl rfl (mapq rfl) ?_
         with_reducible refine (avermentlaw09_To.calls a2_0 a2_1 t263 t264 _ A97.out).mono ?_
         rintro e w148 ⟨rfl, hb⟩
         refine ⟨_, rfl, ?_⟩
         replace BK232 := bb BK232 hb rfl; replace BK233 := bb BK233 hb rfl; replace BK241 := bb BK241 hb rfl; replace BK249 := bb BK249 hb rfl; replace BK257 := bb BK257 hb rfl; replace HB := hst HB hb rfl
         (try clear hb)
         refine hK.out _ _ ⟨bc BK232 0 rfl, bc BK232 1 rfl, bc BK233 0 rfl, bc BK233 1 rfl⟩ (fun hHeld => ?_)
         clear hK K
         refine norm_ (a' := ?_) ?_ ?_
         rotate_left; · (show Act.put _ (some 73) _ = _; simp only [Act.put, List.setIfInBounds_toArray, List.set_cons_zero, List.set_cons_succ, i64_w, i32_w]; rfl)
         refine two_ (i := 4) (j := 8) (Ni := some 74) (Nj := some 13) #[true, true, true, true, true, false, false, false, false, false, false] #[true, true, true, true, false, false, false, false, true, false, false] rfl rfl rfl rfl (two_of HT_.out (by kernel_rfl)) (by decide) (by decide) (fun K hK => ?_) (fun K hK => ?_)
         ·
          skip
          refine goes_ Try.func13 (by kernel_rfl) rfl #[.agg #[.bool t261, .int .i64 t262], .agg #[.bool t263, .int .i64 t264]] (by rfl) rfl rfl (mapq rfl) ?_
          with_reducible refine (known_Meet.calls t261 t262 t263 t264 t265 t266 false _ A98.out).mono ?_
          rintro e w149 ⟨rfl, hb⟩
          refine ⟨_, rfl, ?_⟩
          replace BK232 := bb BK232 hb rfl; replace BK233 := bb BK233 hb rfl; replace BK241 := bb BK241 hb rfl; replace BK249 := bb BK249 hb rfl; replace BK257 := bb BK257 hb rfl; replace HB := hst HB hb rfl
          (try clear hb)
          refine hK.out _ _ ⟨bc BK232 0 rfl, bc BK232 1 rfl, bc BK233 0 rfl, bc BK233 1 rfl⟩ (fun hHeld => ?_)
          clear hK K
          refine norm_ (a' := ?_) ?_ ?_
          rotate_left; · (show Act.put _ (some 74) _ = _; simp only [Act.put, List.setIfInBounds_toArray, List.set_cons_zero, List.set_cons_succ, i64_w, i32_w]; rfl)
          refine pure_ (i := 5) (N := some 69) (v := ?_) (a' := ?_) #[true, true, true, true, true, true, false, false, false, false, false] rfl rfl (any_of HT_.out (by kernel_rfl)) (fun _ _ _ h => h) (Or.inl ⟨by rfl, ?_⟩) ?_ ?_
          rotate_left; · (intro w'; go_simp; with_reducible rfl)
          rotate_left; · (simp only [Act.put, List.setIfInBounds_toArray, List.set_cons_zero, List.set_cons_succ, i64_w, i32_w]; rfl)
          refine pure_ (i := 6) (N := some 75) (v := ?_) (a' := ?_) #[true, true, true, true, true, true, true, false, false, false, false] rfl rfl (any_of HT_.out (by kernel_rfl)) (fun _ _ _ h => h) (Or.inl ⟨by rfl, ?_⟩) ?_ ?_
          rotate_left; · (intro w'; go_simp; with_reducible rfl)
          rotate_left; · (simp only [Act.put, List.setIfInBounds_toArray, List.set_cons_zero, List.set_cons_succ, i64_w, i32_w]; rfl)
          refine pure_ (i := 7) (N := some 76) (v := ?_) (a' := ?_) #[true, true, true, true, true, true, true, true, false, false, false] rfl rfl (any_of HT_.out (by kernel_rfl)) (fun _ _ _ h => h) (Or.inl ⟨by rfl, ?_⟩) ?_ ?_
          rotate_left; · (intro w'; go_simp; with_reducible rfl)
          rotate_left; · (simp only [Act.put, List.setIfInBounds_toArray, List.set_cons_zero, List.set_cons_succ, i64_w, i32_w]; rfl)
          refine one_ (i := 8) (N := some 13) #[true, true, true, true, true, true, true, true, true, false, false] rfl rfl (one_of HT_.out (by kernel_rfl)) (by decide) (fun K hK => ?_)
          refine box_step ?hg (N := 13) ?hd (cs := #[.bool false, .int .i64 0]) (t := 24) ?hr ?_; (case hd => rfl); (case hg => rfl); (case hr => first | (go_simp; done) | (go_simp; rfl))
          intro gb268 hg w150 hbox hb
          have BK268 := Aside0.mk (hbox)
          have GW268 := geb hg HB rfl
          have GE268 := geb hg HB rfl
          have NB232_268 := nbl hg BK232 rfl
          have NB268_232 := nbr hg BK232 rfl
          have NB233_268 := nbl hg BK233 rfl
          have NB268_233 := nbr hg BK233 rfl
          have NB241_268 := nbl hg BK241 rfl
          have NB268_241 := nbr hg BK241 rfl
          have NB249_268 := nbl hg BK249 rfl
          have NB268_249 := nbr hg BK249 rfl
          have NB257_268 := nbl hg BK257 rfl
          have NB268_257 := nbr hg BK257 rfl
          replace BK232 := bb BK232 hb rfl; replace BK233 := bb BK233 hb rfl; replace BK241 := bb BK241 hb rfl; replace BK249 := bb BK249 hb rfl; replace BK257 := bb BK257 hb rfl; replace HB := hst HB hb rfl
          clear hb hbox hg
          refine hK.out _ _ ⟨bc BK232 0 rfl, bc BK232 1 rfl, bc BK233 0 rfl, bc BK233 1 rfl⟩ (fun hHeld => ?_)
          clear hK K
          refine norm_ (a' := ?_) ?_ ?_
          rotate_left; · (show Act.put _ (some 13) _ = _; simp only [Act.put, List.setIfInBounds_toArray, List.set_cons_zero, List.set_cons_succ, i64_w, i32_w]; rfl)
          exact norm_ (by simp only [putAll, Act.put, List.setIfInBounds_toArray, List.set_cons_zero, List.set_cons_succ]) (hCont (gb268) _ ⟨hHeld, BK232.out, BK233.out, BK241.out, BK249.out, BK257.out, BK268.out, GW268.out, GE268.out, NB232_268.out, NB268_232.out, NB233_268.out, NB268_233.out, NB241_268.out, NB268_241.out, NB249_268.out, NB268_249.out, NB257_268.out, NB268_257.out, (by repeat (first | (with_reducible first | exact HB.out | apply below_alloc | apply pw_below_drewN | apply below_drew1 | refine below_set ?_ GE232.out | refine below_set ?_ GE233.out | refine below_set ?_ GE241.out | refine below_set ?_ GE249.out | refine below_set ?_ GE257.out | refine below_set ?_ GE268.out) | exact HB.out))⟩)
         ·
          skip
          refine box_step ?hg (N := 13) ?hd (cs := #[.bool false, .int .i64 0]) (t := 24) ?hr ?_; (case hd => rfl); (case hg => rfl); (case hr => first | (go_simp; done) | (go_simp; rfl))
          intro gb268 hg w149 hbox hb
          have BK268 := Aside0.mk (hbox)
          have GW268 := geb hg HB rfl
          have GE268 := geb hg HB rfl
          have NB232_268 := nbl hg BK232 rfl
          have NB268_232 := nbr hg BK232 rfl
          have NB233_268 := nbl hg BK233 rfl
          have NB268_233 := nbr hg BK233 rfl
          have NB241_268 := nbl hg BK241 rfl
          have NB268_241 := nbr hg BK241 rfl
          have NB249_268 := nbl hg BK249 rfl
          have NB268_249 := nbr hg BK249 rfl
          have NB257_268 := nbl hg BK257 rfl
          have NB268_257 := nbr hg BK257 rfl
          replace BK232 := bb BK232 hb rfl; replace BK233 := bb BK233 hb rfl; replace BK241 := bb BK241 hb rfl; replace BK249 := bb BK249 hb rfl; replace BK257 := bb BK257 hb rfl; replace HB := hst HB hb rfl
          clear hb hbox hg
          refine hK.out _ _ ⟨bc BK232 0 rfl, bc BK232 1 rfl, bc BK233 0 rfl, bc BK233 1 rfl⟩ (fun hHeld => ?_)
          clear hK K
          refine norm_ (a' := ?_) ?_ ?_
          rotate_left; · (show Act.put _ (some 13) _ = _; simp only [Act.put, List.setIfInBounds_toArray, List.set_cons_zero, List.set_cons_succ, i64_w, i32_w]; rfl)
          refine one_ (i := 4) (N := some 74) #[true, true, true, true, true, false, false, false, true, false, false] rfl rfl (one_of HT_.out (by kernel_rfl)) (by decide) (fun K hK => ?_)
          refine goes_ Try.func13 (by kernel_rfl) rfl #[.agg #[.bool t261, .int .i64 t262], .agg #[.bool t263, .int .i64 t264]] (by rfl) rfl rfl (mapq rfl) ?_
          with_reducible refine (known_Meet.calls t261 t262 t263 t264 t265 t266 false _ A98.out).mono ?_
          rintro e w150 ⟨rfl, hb⟩
          refine ⟨_, rfl, ?_⟩
          replace BK232 := bb BK232 hb rfl; replace BK233 := bb BK233 hb rfl; replace BK241 := bb BK241 hb rfl; replace BK249 := bb BK249 hb rfl; replace BK257 := bb BK257 hb rfl; replace BK268 := bb BK268 hb rfl; replace HB := hst HB hb rfl
          (try clear hb)
          refine hK.out _ _ ⟨bc BK232 0 rfl, bc BK232 1 rfl, bc BK233 0 rfl, bc BK233 1 rfl⟩ (fun hHeld => ?_)
          clear hK K
          refine norm_ (a' := ?_) ?_ ?_
          rotate_left; · (show Act.put _ (some 74) _ = _; simp only [Act.put, List.setIfInBounds_toArray, List.set_cons_zero, List.set_cons_succ, i64_w, i32_w]; rfl)
          refine pure_ (i := 5) (N := some 69) (v := ?_) (a' := ?_) #[true, true, true, true, true, true, false, false, true, false, false] rfl rfl (any_of HT_.out (by kernel_rfl)) (fun _ _ _ h => h) (Or.inl ⟨by rfl, ?_⟩) ?_ ?_
          rotate_left; · (intro w'; go_simp; with_reducible rfl)
          rotate_left; · (simp only [Act.put, List.setIfInBounds_toArray, List.set_cons_zero, List.set_cons_succ, i64_w, i32_w]; rfl)
          refine pure_ (i := 6) (N := some 75) (v := ?_) (a' := ?_) #[true, true, true, true, true, true, true, false, true, false, false] rfl rfl (any_of HT_.out (by kernel_rfl)) (fun _ _ _ h => h) (Or.inl ⟨by rfl, ?_⟩) ?_ ?_
          rotate_left; · (intro w'; go_simp; with_reducible rfl)
          rotate_left; · (simp only [Act.put, List.setIfInBounds_toArray, List.set_cons_zero, List.set_cons_succ, i64_w, i32_w]; rfl)
          refine pure_ (i := 7) (N := some 76) (v := ?_) (a' := ?_) #[true, true, true, true, true, true, true, true, true, false, false] rfl rfl (any_of HT_.out (by kernel_rfl)) (fun _ _ _ h => h) (Or.inl ⟨by rfl, ?_⟩) ?_ ?_
          rotate_left; · (intro w'; go_simp; with_reducible rfl)
          rotate_left; · (simp only [Act.put, List.setIfInBounds_toArray, List.set_cons_zero, List.set_cons_succ, i64_w, i32_w]; rfl)
          exact norm_ (by simp only [putAll, Act.put, List.setIfInBounds_toArray, List.set_cons_zero, List.set_cons_succ]) (hCont (gb268) _ ⟨hHeld, BK232.out, BK233.out, BK241.out, BK249.out, BK257.out, BK268.out, GW268.out, GE268.out, NB232_268.out, NB268_232.out, NB233_268.out, NB268_233.out, NB241_268.out, NB268_241.out, NB249_268.out, NB268_249.out, NB257_268.out, NB268_257.out, (by repeat (first | (with_reducible first | exact HB.out | apply below_alloc | apply pw_below_drewN | apply below_drew1 | refine below_set ?_ GE232.out | refine below_set ?_ GE233.out | refine below_set ?_ GE241.out | refine below_set ?_ GE249.out | refine below_set ?_ GE257.out | refine below_set ?_ GE268.out) | exact HB.out))⟩)
        ·
         skip
         refine box_step ?hg (N := 13) ?hd (cs := #[.bool false, .int .i64 0]) (t := 24) ?hr ?_; (case hd => rfl); (case hg => rfl); (case hr => first | (go_simp; done) | (go_simp; rfl))
         intro gb268 hg w148 hbox hb
         have BK268 := Aside0.mk (hbox)
         have GW268 := geb hg HB rfl
         have GE268 := geb hg HB rfl
         have NB232_268 := nbl hg BK232 rfl
         have NB268_232 := nbr hg BK232 rfl
         have NB233_268 := nbl hg BK233 rfl
         have NB268_233 := nbr hg BK233 rfl
         have NB241_268 := nbl hg BK241 rfl
         have NB268_241 := nbr hg BK241 rfl
         have NB249_268 := nbl hg BK249 rfl
         have NB268_249 := nbr hg BK249 rfl
         have NB257_268 := nbl hg BK257 rfl
         have NB268_257 := nbr hg BK257 rfl
         replace BK232 := bb BK232 hb rfl; replace BK233 := bb BK233 hb rfl; replace BK241 := bb BK241 hb rfl; replace BK249 := bb BK249 hb rfl; replace BK257 := bb BK257 hb rfl; replace HB := hst HB hb rfl
         clear hb hbox hg
         refine hK.out _ _ ⟨bc BK232 0 rfl, bc BK232 1 rfl, bc BK233 0 rfl, bc BK233 1 rfl⟩ (fun hHeld => ?_)
         clear hK K
         refine norm_ (a' := ?_) ?_ ?_
         rotate_left; · (show Act.put _ (some 13) _ = _; simp only [Act.put, List.setIfInBounds_toArray, List.set_cons_zero, List.set_cons_succ, i64_w, i32_w]; rfl)
         refine one_ (i := 3) (N := some 73) #[true, true, true, true, false, false, false, false, true, false, false] rfl rfl (one_of HT_.out (by kernel_rfl)) (by decide) (fun K hK => ?_)
         refine goes_ Try.func14 (by kernel_rfl) rfl #[.agg #[.bool a2_0, .int .i64 a2_1]] (by rfl) rfl rfl (mapq rfl) ?_
         with_reducible refine (avermentlaw09_To.calls a2_0 a2_1 t263 t264 _ A97.out).mono ?_
         rintro e w149 ⟨rfl, hb⟩
         refine ⟨_, rfl, ?_⟩
         replace BK232 := bb BK232 hb rfl; replace BK233 := bb BK233 hb rfl; replace BK241 := bb BK241 hb rfl; replace BK249 := bb BK249 hb rfl; replace BK257 := bb BK257 hb rfl; replace BK268 := bb BK268 hb rfl; replace HB := hst HB hb rfl
         (try clear hb)
         refine hK.out _ _ ⟨bc BK232 0 rfl, bc BK232 1 rfl, bc BK233 0 rfl, bc BK233 1 rfl⟩ (fun hHeld => ?_)
         clear hK K
         refine norm_ (a' := ?_) ?_ ?_
         rotate_left; · (show Act.put _ (some 73) _ = _; simp only [Act.put, List.setIfInBounds_toArray, List.set_cons_zero, List.set_cons_succ, i64_w, i32_w]; rfl)
         refine one_ (i := 4) (N := some 74) #[true, true, true, true, true, false, false, false, true, false, false] rfl rfl (one_of HT_.out (by kernel_rfl)) (by decide) (fun K hK => ?_)
         refine goes_ Try.func13 (by kernel_rfl) rfl #[.agg #[.bool t261, .int .i64 t262], .agg #[.bool t263, .int .i64 t264]] (by rfl) rfl rfl (mapq rfl) ?_
         with_reducible refine (known_Meet.calls t261 t262 t263 t264 t265 t266 false _ A98.out).mono ?_
         rintro e w150 ⟨rfl, hb⟩
         refine ⟨_, rfl, ?_⟩
         replace BK232 := bb BK232 hb rfl; replace BK233 := bb BK233 hb rfl; replace BK241 := bb BK241 hb rfl; replace BK249 := bb BK249 hb rfl; replace BK257 := bb BK257 hb rfl; replace BK268 := bb BK268 hb rfl; replace HB := hst HB hb rfl
         (try clear hb)
         refine hK.out _ _ ⟨bc BK232 0 rfl, bc BK232 1 rfl, bc BK233 0 rfl, bc BK233 1 rfl⟩ (fun hHeld => ?_)
         clear hK K
         refine norm_ (a' := ?_) ?_ ?_
         rotate_left; · (show Act.put _ (some 74) _ = _; simp only [Act.put, List.setIfInBounds_toArray, List.set_cons_zero, List.set_cons_succ, i64_w, i32_w]; rfl)
         refine pure_ (i := 5) (N := some 69) (v := ?_) (a' := ?_) #[true, true, true, true, true, true, false, false, true, false, false] rfl rfl (any_of HT_.out (by kernel_rfl)) (fun _ _ _ h => h) (Or.inl ⟨by rfl, ?_⟩) ?_ ?_
         rotate_left; · (intro w'; go_simp; with_reducible rfl)
         rotate_left; · (simp only [Act.put, List.setIfInBounds_toArray, List.set_cons_zero, List.set_cons_succ, i64_w, i32_w]; rfl)
         refine pure_ (i := 6) (N := some 75) (v := ?_) (a' := ?_) #[true, true, true, true, true, true, true, false, true, false, false] rfl rfl (any_of HT_.out (by kernel_rfl)) (fun _ _ _ h => h) (Or.inl ⟨by rfl, ?_⟩) ?_ ?_
         rotate_left; · (intro w'; go_simp; with_reducible rfl)
         rotate_left; · (simp only [Act.put, List.setIfInBounds_toArray, List.set_cons_zero, List.set_cons_succ, i64_w, i32_w]; rfl)
         refine pure_ (i := 7) (N := some 76) (v := ?_) (a' := ?_) #[true, true, true, true, true, true, true, true, true, false, false] rfl rfl (any_of HT_.out (by kernel_rfl)) (fun _ _ _ h => h) (Or.inl ⟨by rfl, ?_⟩) ?_ ?_
         rotate_left; · (intro w'; go_simp; with_reducible rfl)
         rotate_left; · (simp only [Act.put, List.setIfInBounds_toArray, List.set_cons_zero, List.set_cons_succ, i64_w, i32_w]; rfl)
         exact norm_ (by simp only [putAll, Act.put, List.setIfInBounds_toArray, List.set_cons_zero, List.set_cons_succ]) (hCont (gb268) _ ⟨hHeld, BK232.out, BK233.out, BK241.out, BK249.out, BK257.out, BK268.out, GW268.out, GE268.out, NB232_268.out, NB268_232.out, NB233_268.out, NB268_233.out, NB241_268.out, NB268_241.out, NB249_268.out, NB268_249.out, NB257_268.out, NB268_257.out, (by repeat (first | (with_reducible first | exact HB.out | apply below_alloc | apply pw_below_drewN | apply below_drew1 | refine below_set ?_ GE232.out | refine below_set ?_ GE233.out | refine below_set ?_ GE241.out | refine below_set ?_ GE249.out | refine below_set ?_ GE257.out | refine below_set ?_ GE268.out) | exact HB.out))⟩)
       ·
        skip
        refine box_step ?hg (N := 13) ?hd (cs := #[.bool false, .int .i64 0]) (t := 24) ?hr ?_; (case hd => rfl); (case hg => rfl); (case hr => first | (go_simp; done) | (go_simp; rfl))
        intro gb268 hg w147 hbox hb
        have BK268 := Aside0.mk (hbox)
        have GW268 := geb hg HB rfl
        have GE268 := geb hg HB rfl
        have NB232_268 := nbl hg BK232 rfl
        have NB268_232 := nbr hg BK232 rfl
        have NB233_268 := nbl hg BK233 rfl
        have NB268_233 := nbr hg BK233 rfl
        have NB241_268 := nbl hg BK241 rfl
        have NB268_241 := nbr hg BK241 rfl
        have NB249_268 := nbl hg BK249 rfl
        have NB268_249 := nbr hg BK249 rfl
        have NB257_268 := nbl hg BK257 rfl
        have NB268_257 := nbr hg BK257 rfl
        replace BK232 := bb BK232 hb rfl; replace BK233 := bb BK233 hb rfl; replace BK241 := bb BK241 hb rfl; replace BK249 := bb BK249 hb rfl; replace BK257 := bb BK257 hb rfl; replace HB := hst HB hb rfl
        clear hb hbox hg
        refine hK.out _ _ ⟨bc BK232 0 rfl, bc BK232 1 rfl, bc BK233 0 rfl, bc BK233 1 rfl⟩ (fun hHeld => ?_)
        clear hK K
        refine norm_ (a' := ?_) ?_ ?_
        rotate_left; · (show Act.put _ (some 13) _ = _; simp only [Act.put, List.setIfInBounds_toArray, List.set_cons_zero, List.set_cons_succ, i64_w, i32_w]; rfl)
        refine one_ (i := 1) (N := some 71) #[true, true, true, false, false, false, false, false, true, false, false] rfl rfl (one_of HT_.out (by kernel_rfl)) (by decide) (fun K hK => ?_)
        refine goes_ Try.func14 (by kernel_rfl) rfl #[.agg #[.bool a1_0, .int .i64 a1_1]] (by rfl) rfl rfl (mapq rfl) ?_
        with_reducible refine (avermentlaw09_To.calls a1_0 a1_1 t261 t262 _ A96.out).mono ?_
        rintro e w148 ⟨rfl, hb⟩
        refine ⟨_, rfl, ?_⟩
        replace BK232 := bb BK232 hb rfl; replace BK233 := bb BK233 hb rfl; replace BK241 := bb BK241 hb rfl; replace BK249 := bb BK249 hb rfl; replace BK257 := bb BK257 hb rfl; replace BK268 := bb BK268 hb rfl; replace HB := hst HB hb rfl
        (try clear hb)
        refine hK.out _ _ ⟨bc BK232 0 rfl, bc BK232 1 rfl, bc BK233 0 rfl, bc BK233 1 rfl⟩ (fun hHeld => ?_)
        clear hK K
        refine norm_ (a' := ?_) ?_ ?_
        rotate_left; · (show Act.put _ (some 71) _ = _; simp only [Act.put, List.setIfInBounds_toArray, List.set_cons_zero, List.set_cons_succ, i64_w, i32_w]; rfl)
        refine one_ (i := 3) (N := some 73) #[true, true, true, true, false, false, false, false, true, false, false] rfl rfl (one_of HT_.out (by kernel_rfl)) (by decide) (fun K hK => ?_)
        refine goes_ Try.func14 (by kernel_rfl) rfl #[.agg #[.bool a2_0, .int .i64 a2_1]] (by rfl) rfl rfl (mapq rfl) ?_
        with_reducible refine (avermentlaw09_To.calls a2_0 a2_1 t263 t264 _ A97.out).mono ?_
        rintro e w149 ⟨rfl, hb⟩
        refine ⟨_, rfl, ?_⟩
        replace BK232 := bb BK232 hb rfl; replace BK233 := bb BK233 hb rfl; replace BK241 := bb BK241 hb rfl; replace BK249 := bb BK249 hb rfl; replace BK257 := bb BK257 hb rfl; replace BK268 := bb BK268 hb rfl; replace HB := hst HB hb rfl
        (try clear hb)
        refine hK.out _ _ ⟨bc BK232 0 rfl, bc BK232 1 rfl, bc BK233 0 rfl, bc BK233 1 rfl⟩ (fun hHeld => ?_)
        clear hK K
        refine norm_ (a' := ?_) ?_ ?_
        rotate_left; · (show Act.put _ (some 73) _ = _; simp only [Act.put, List.setIfInBounds_toArray, List.set_cons_zero, List.set_cons_succ, i64_w, i32_w]; rfl)
        refine one_ (i := 4) (N := some 74) #[true, true, true, true, true, false, false, false, true, false, false] rfl rfl (one_of HT_.out (by kernel_rfl)) (by decide) (fun K hK => ?_)
        refine goes_ Try.func13 (by kernel_rfl) rfl #[.agg #[.bool t261, .int .i64 t262], .agg #[.bool t263, .int .i64 t264]] (by rfl) rfl rfl (mapq rfl) ?_
        with_reducible refine (known_Meet.calls t261 t262 t263 t264 t265 t266 false _ A98.out).mono ?_
        rintro e w150 ⟨rfl, hb⟩
        refine ⟨_, rfl, ?_⟩
        replace BK232 := bb BK232 hb rfl; replace BK233 := bb BK233 hb rfl; replace BK241 := bb BK241 hb rfl; replace BK249 := bb BK249 hb rfl; replace BK257 := bb BK257 hb rfl; replace BK268 := bb BK268 hb rfl; replace HB := hst HB hb rfl
        (try clear hb)
        refine hK.out _ _ ⟨bc BK232 0 rfl, bc BK232 1 rfl, bc BK233 0 rfl, bc BK233 1 rfl⟩ (fun hHeld => ?_)
        clear hK K
        refine norm_ (a' := ?_) ?_ ?_
        rotate_left; · (show Act.put _ (some 74) _ = _; simp only [Act.put, List.setIfInBounds_toArray, List.set_cons_zero, List.set_cons_succ, i64_w, i32_w]; rfl)
        refine pure_ (i := 5) (N := some 69) (v := ?_) (a' := ?_) #[true, true, true, true, true, true, false, false, true, false, false] rfl rfl (any_of HT_.out (by kernel_rfl)) (fun _ _ _ h => h) (Or.inl ⟨by rfl, ?_⟩) ?_ ?_
        rotate_left; · (intro w'; go_simp; with_reducible rfl)
        rotate_left; · (simp only [Act.put, List.setIfInBounds_toArray, List.set_cons_zero, List.set_cons_succ, i64_w, i32_w]; rfl)
        refine pure_ (i := 6) (N := some 75) (v := ?_) (a' := ?_) #[true, true, true, true, true, true, true, false, true, false, false] rfl rfl (any_of HT_.out (by kernel_rfl)) (fun _ _ _ h => h) (Or.inl ⟨by rfl, ?_⟩) ?_ ?_
        rotate_left; · (intro w'; go_simp; with_reducible rfl)
        rotate_left; · (simp only [Act.put, List.setIfInBounds_toArray, List.set_cons_zero, List.set_cons_succ, i64_w, i32_w]; rfl)
        refine pure_ (i := 7) (N := some 76) (v := ?_) (a' := ?_) #[true, true, true, true, true, true, true, true, true, false, false] rfl rfl (any_of HT_.out (by kernel_rfl)) (fun _ _ _ h => h) (Or.inl ⟨by rfl, ?_⟩) ?_ ?_
        rotate_left; · (intro w'; go_simp; with_reducible rfl)
        rotate_left; · (simp only [Act.put, List.setIfInBounds_toArray, List.set_cons_zero, List.set_cons_succ, i64_w, i32_w]; rfl)
        exact norm_ (by simp only [putAll, Act.put, List.setIfInBounds_toArray, List.set_cons_zero, List.set_cons_succ]) (hCont (gb268) _ ⟨hHeld, BK232.out, BK233.out, BK241.out, BK249.out, BK257.out, BK268.out, GW268.out, GE268.out, NB232_268.out, NB268_232.out, NB233_268.out, NB268_233.out, NB241_268.out, NB268_241.out, NB249_268.out, NB268_249.out, NB257_268.out, NB268_257.out, (by repeat (first | (with_reducible first | exact HB.out | apply below_alloc | apply pw_below_drewN | apply below_drew1 | refine below_set ?_ GE232.out | refine below_set ?_ GE233.out | refine below_set ?_ GE241.out | refine below_set ?_ GE249.out | refine below_set ?_ GE257.out | refine below_set ?_ GE268.out) | exact HB.out))⟩)
      rintro gb268 w151 ⟨hS_, h0_, h1_, h2_, h3_, h4_, h5_, h6_, h7_, h8_, h9_, h10_, h11_, h12_, h13_, h14_, h15_, h16_, h17_, h18_⟩
      have n0_ : Aside0 (w151.heap[gb232]? = some (.cells #[.bool a1_0, .int .i64 a1_1] 23 (0, 0))) := ⟨h0_⟩
      have n1_ : Aside0 (w151.heap[gb233]? = some (.cells #[.bool a2_0, .int .i64 a2_1] 23 (0, 0))) := ⟨h1_⟩
      have n2_ : Aside0 (w151.heap[gb241]? = some (.cells #[.bool t238, .int .i64 t239] 24 (0, 0))) := ⟨h2_⟩
      have n3_ : Aside0 (w151.heap[gb249]? = some (.cells #[.bool t246, .int .i64 t247] 24 (0, 0))) := ⟨h3_⟩
      have n4_ : Aside0 (w151.heap[gb257]? = some (.cells #[.bool t254, .int .i64 t255] 24 (0, 0))) := ⟨h4_⟩
      have n5_ : Aside0 (w151.heap[gb268]? = some (.cells #[.bool false, .int .i64 0] 24 (0, 0))) := ⟨h5_⟩
      have n6_ : Aside0 (w.heap.size ≤ gb268) := ⟨h6_⟩
      have n7_ : Aside0 (w.heap.size ≤ gb268) := ⟨h7_⟩
      have n8_ : Aside0 (gb232 ≠ gb268) := ⟨h8_⟩
      have n9_ : Aside0 (gb268 ≠ gb232) := ⟨h9_⟩
      have n10_ : Aside0 (gb233 ≠ gb268) := ⟨h10_⟩
      have n11_ : Aside0 (gb268 ≠ gb233) := ⟨h11_⟩
      have n12_ : Aside0 (gb241 ≠ gb268) := ⟨h12_⟩
      have n13_ : Aside0 (gb268 ≠ gb241) := ⟨h13_⟩
      have n14_ : Aside0 (gb249 ≠ gb268) := ⟨h14_⟩
      have n15_ : Aside0 (gb268 ≠ gb249) := ⟨h15_⟩
      have n16_ : Aside0 (gb257 ≠ gb268) := ⟨h16_⟩
      have n17_ : Aside0 (gb268 ≠ gb257) := ⟨h17_⟩
      have n18_ : Aside0 (Below w.heap.size w w151) := ⟨h18_⟩
      clear BK232
      clear BK233
      clear BK241
      clear BK249
      clear BK257
      clear HB
      clear h0_ h1_ h2_ h3_ h4_ h5_ h6_ h7_ h8_ h9_ h10_ h11_ h12_ h13_ h14_ h15_ h16_ h17_ h18_
      have BK232 := n0_
      have BK233 := n1_
      have BK241 := n2_
      have BK249 := n3_
      have BK257 := n4_
      have BK268 := n5_
      have GW268 := n6_
      have GE268 := n7_
      have NB232_268 := n8_
      have NB268_232 := n9_
      have NB233_268 := n10_
      have NB268_233 := n11_
      have NB241_268 := n12_
      have NB268_241 := n13_
      have NB249_268 := n14_
      have NB268_249 := n15_
      have NB257_268 := n16_
      have NB268_257 := n17_
      have HB := n18_
      clear n0_ n1_ n2_ n3_ n4_ n5_ n6_ n7_ n8_ n9_ n10_ n11_ n12_ n13_ n14_ n15_ n16_ n17_ n18_
      have hHeld : w151.cell? ⟨gb232, 0, none⟩ = some (.bool a1_0) ∧ w151.cell? ⟨gb232, 1, none⟩ = some (.int .i64 a1_1) ∧ w151.cell? ⟨gb233, 0, none⟩ = some (.bool a2_0) ∧ w151.cell? ⟨gb233, 1, none⟩ = some (.int .i64 a2_1) := hS_
      refine norm_ (a' := ?_) ?_ ?_
      rotate_left
      ·
       simp only [putAll, Act.put, List.setIfInBounds_toArray, List.set_cons_zero, List.set_cons_succ]
       rfl
      refine one_ (i := 9) (N := none) #[true, true, true, true, true, true, true, true, true, true, false] rfl rfl (one_of HT_.out (by kernel_rfl)) (by decide) (fun K hK => ?_)
      have hs152 : w151.cell? ⟨gb268, 0, none⟩ = some (.bool false) := bc BK268 0 rfl
      have hfs152 := blk_frozen BK268.out 0
      have hns152_0 := NB232_268.out
      have hns152_1 := NB233_268.out
      have hns152_2 := NB241_268.out
      have hns152_3 := NB249_268.out
      have hns152_4 := NB257_268.out
      have hms152_0 := NB268_232.out
      have hms152_1 := NB268_233.out
      have hms152_2 := NB268_241.out
      have hms152_3 := NB268_249.out
      have hms152_4 := NB268_257.out
      have hs153 : w151.cell? ⟨gb268, 1, none⟩ = some (.int .i64 0) := bc BK268 1 rfl
      have hfs153 := blk_frozen BK268.out 1
      have hns153_0 := NB232_268.out
      have hns153_1 := NB233_268.out
      have hns153_2 := NB241_268.out
      have hns153_3 := NB249_268.out
      have hns153_4 := NB257_268.out
      have hms153_0 := NB268_232.out
      have hms153_1 := NB268_233.out
      have hms153_2 := NB268_241.out
      have hms153_3 := NB268_249.out
      have hms153_4 := NB268_257.out
      refine skip_ (w1 := ?_) (by rfl) rfl ?_ ?_
      rotate_left
      ·
       go_simp
       rfl
      refine hK.out _ _ ⟨((cell_far (p := ⟨gb268, _, none⟩) NB232_268.out _).trans (((cell_far (p := ⟨gb268, _, none⟩) NB232_268.out _).trans (hHeld.1)))), ((cell_far (p := ⟨gb268, _, none⟩) NB232_268.out _).trans (((cell_far (p := ⟨gb268, _, none⟩) NB232_268.out _).trans (hHeld.2.1)))), ((cell_far (p := ⟨gb268, _, none⟩) NB233_268.out _).trans (((cell_far (p := ⟨gb268, _, none⟩) NB233_268.out _).trans (hHeld.2.2.1)))), ((cell_far (p := ⟨gb268, _, none⟩) NB233_268.out _).trans (((cell_far (p := ⟨gb268, _, none⟩) NB233_268.out _).trans (hHeld.2.2.2))))⟩ (fun hHeld => ?_)
      clear hK K
      refine pure_ (i := 10) (N := some 14) (v := ?_) (a' := ?_) #[true, true, true, true, true, true, true, true, true, true, true] rfl rfl (any_of HT_.out (by kernel_rfl)) (fun _ _ _ h => h) (Or.inl ⟨by rfl, ?_⟩) ?_ ?_
      rotate_left; · (intro w'; go_simp; with_reducible rfl)
      rotate_left; · (simp only [Act.put, List.setIfInBounds_toArray, List.set_cons_zero, List.set_cons_succ, i64_w, i32_w]; rfl)
      refine done_ (done_of HT_.out (by kernel_rfl)) ?_
      try go_wp2
      have n0_ : Aside0 (((w151.setCell ⟨gb268, 0, none⟩ (.bool t265)).setCell ⟨gb268, 1, none⟩ (.int .i64 t266)).heap[gb232]? = some (.cells #[.bool a1_0, .int .i64 a1_1] 23 (0, 0))) := ⟨by (with_reducible repeat (first | refine blk_drewN ?_ _ | refine blk_drew ?_ | refine blk_alloc ?_ _)); refine blk_far ?_ NB232_268.out _; (with_reducible repeat (first | refine blk_drewN ?_ _ | refine blk_drew ?_ | refine blk_alloc ?_ _)); refine blk_far ?_ NB232_268.out _; (with_reducible repeat (first | refine blk_drewN ?_ _ | refine blk_drew ?_ | refine blk_alloc ?_ _)); exact BK232.out⟩
      have n1_ : Aside0 (((w151.setCell ⟨gb268, 0, none⟩ (.bool t265)).setCell ⟨gb268, 1, none⟩ (.int .i64 t266)).heap[gb233]? = some (.cells #[.bool a2_0, .int .i64 a2_1] 23 (0, 0))) := ⟨by (with_reducible repeat (first | refine blk_drewN ?_ _ | refine blk_drew ?_ | refine blk_alloc ?_ _)); refine blk_far ?_ NB233_268.out _; (with_reducible repeat (first | refine blk_drewN ?_ _ | refine blk_drew ?_ | refine blk_alloc ?_ _)); refine blk_far ?_ NB233_268.out _; (with_reducible repeat (first | refine blk_drewN ?_ _ | refine blk_drew ?_ | refine blk_alloc ?_ _)); exact BK233.out⟩
      have n2_ : Aside0 (((w151.setCell ⟨gb268, 0, none⟩ (.bool t265)).setCell ⟨gb268, 1, none⟩ (.int .i64 t266)).heap[gb241]? = some (.cells #[.bool t238, .int .i64 t239] 24 (0, 0))) := ⟨by (with_reducible repeat (first | refine blk_drewN ?_ _ | refine blk_drew ?_ | refine blk_alloc ?_ _)); refine blk_far ?_ NB241_268.out _; (with_reducible repeat (first | refine blk_drewN ?_ _ | refine blk_drew ?_ | refine blk_alloc ?_ _)); refine blk_far ?_ NB241_268.out _; (with_reducible repeat (first | refine blk_drewN ?_ _ | refine blk_drew ?_ | refine blk_alloc ?_ _)); exact BK241.out⟩
      have n3_ : Aside0 (((w151.setCell ⟨gb268, 0, none⟩ (.bool t265)).setCell ⟨gb268, 1, none⟩ (.int .i64 t266)).heap[gb249]? = some (.cells #[.bool t246, .int .i64 t247] 24 (0, 0))) := ⟨by (with_reducible repeat (first | refine blk_drewN ?_ _ | refine blk_drew ?_ | refine blk_alloc ?_ _)); refine blk_far ?_ NB249_268.out _; (with_reducible repeat (first | refine blk_drewN ?_ _ | refine blk_drew ?_ | refine blk_alloc ?_ _)); refine blk_far ?_ NB249_268.out _; (with_reducible repeat (first | refine blk_drewN ?_ _ | refine blk_drew ?_ | refine blk_alloc ?_ _)); exact BK249.out⟩
      have n4_ : Aside0 (((w151.setCell ⟨gb268, 0, none⟩ (.bool t265)).setCell ⟨gb268, 1, none⟩ (.int .i64 t266)).heap[gb257]? = some (.cells #[.bool t254, .int .i64 t255] 24 (0, 0))) := ⟨by (with_reducible repeat (first | refine blk_drewN ?_ _ | refine blk_drew ?_ | refine blk_alloc ?_ _)); refine blk_far ?_ NB257_268.out _; (with_reducible repeat (first | refine blk_drewN ?_ _ | refine blk_drew ?_ | refine blk_alloc ?_ _)); refine blk_far ?_ NB257_268.out _; (with_reducible repeat (first | refine blk_drewN ?_ _ | refine blk_drew ?_ | refine blk_alloc ?_ _)); exact BK257.out⟩
      have n5_ : Aside0 (((w151.setCell ⟨gb268, 0, none⟩ (.bool t265)).setCell ⟨gb268, 1, none⟩ (.int .i64 t266)).heap[gb268]? = some (.cells #[.bool t265, .int .i64 t266] 24 (0, 0))) := ⟨by (with_reducible repeat (first | refine blk_drewN ?_ _ | refine blk_drew ?_ | refine blk_alloc ?_ _)); refine blk_put (cs := #[.bool t265, .int .i64 0]) ?_ 1 _ rfl; (with_reducible repeat (first | refine blk_drewN ?_ _ | refine blk_drew ?_ | refine blk_alloc ?_ _)); refine blk_put (cs := #[.bool false, .int .i64 0]) ?_ 0 _ rfl; (with_reducible repeat (first | refine blk_drewN ?_ _ | refine blk_drew ?_ | refine blk_alloc ?_ _)); exact BK268.out⟩
      have n6_ : Aside0 (Below w.heap.size w ((w151.setCell ⟨gb268, 0, none⟩ (.bool t265)).setCell ⟨gb268, 1, none⟩ (.int .i64 t266))) := ⟨by repeat (first | (with_reducible first | exact HB.out | apply below_alloc | apply pw_below_drewN | apply below_drew1 | refine below_set ?_ GE232.out | refine below_set ?_ GE233.out | refine below_set ?_ GE241.out | refine below_set ?_ GE249.out | refine below_set ?_ GE257.out | refine below_set ?_ GE268.out) | exact HB.out)⟩
      (try clear BK232)
      (try clear BK233)
      (try clear BK241)
      (try clear BK249)
      (try clear BK257)
      (try clear BK268)
      (try clear HB)
      generalize ((w151.setCell ⟨gb268, 0, none⟩ (.bool t265)).setCell ⟨gb268, 1, none⟩ (.int .i64 t266)) = w154 at n0_ n1_ n2_ n3_ n4_ n5_ n6_ ⊢
      have BK232 := n0_
      have BK233 := n1_
      have BK241 := n2_
      have BK249 := n3_
      have BK257 := n4_
      have BK268 := n5_
      have HB := n6_
      clear n0_ n1_ n2_ n3_ n4_ n5_ n6_
      replace BK232 := Aside0.mk (blk_drew BK232.out); replace BK233 := Aside0.mk (blk_drew BK233.out); replace BK241 := Aside0.mk (blk_drew BK241.out); replace BK249 := Aside0.mk (blk_drew BK249.out); replace BK257 := Aside0.mk (blk_drew BK257.out); replace BK268 := Aside0.mk (blk_drew BK268.out); replace HB := Aside0.mk (below_drew1 HB.out)
      refine start_ (n := 7) (S := fun w' => w'.cell? ⟨gb232, 0, none⟩ = some (.bool a1_0) ∧ w'.cell? ⟨gb232, 1, none⟩ = some (.int .i64 a1_1) ∧ w'.cell? ⟨gb233, 0, none⟩ = some (.bool a2_0) ∧ w'.cell? ⟨gb233, 1, none⟩ = some (.int .i64 a2_1)) (ds := []) #[false, false, false, false, false, false, false] (by kernel_rfl) rfl rfl ⟨bc BK232 0 rfl, bc BK232 1 rfl, bc BK233 0 rfl, bc BK233 1 rfl⟩ (fun hHeld => ?_)
      generalize w154.drew = w155 at BK232 BK233 BK241 BK249 BK257 BK268 HB hHeld ⊢
      refine take_ (i := 0) (N := some 77) (v := ?_) (a' := ?_) #[true, false, false, false, false, false, false] rfl rfl (by kernel_rfl) (fun _ _ _ h => h) (Or.inl ⟨by rfl, ?_⟩) hHeld ?_ ?_
      rotate_left
      ·
       rintro w' ⟨s0, s1, s2, s3⟩
       go_simp
       with_reducible rfl
      rotate_left
      ·
       simp only [Act.put, List.setIfInBounds_toArray, List.set_cons_zero, List.set_cons_succ, i64_w, i32_w]
       rfl
      refine take_ (i := 2) (N := some 79) (v := ?_) (a' := ?_) #[true, false, true, false, false, false, false] rfl rfl (by kernel_rfl) (fun _ _ _ h => h) (Or.inl ⟨by rfl, ?_⟩) hHeld ?_ ?_
      rotate_left
      ·
       rintro w' ⟨s0, s1, s2, s3⟩
       go_simp
       with_reducible rfl
      rotate_left
      ·
       simp only [Act.put, List.setIfInBounds_toArray, List.set_cons_zero, List.set_cons_succ, i64_w, i32_w]
       rfl
      refine join_ (σ := Nat) 1 #[true, true, true, true, true, true, false] (fun s_ => [(78, .agg #[.bool t269, .int .i64 t270]), (80, .agg #[.bool t271, .int .i64 t272]), (81, .agg #[.bool t273, .int .i64 t274]), (15, .pointer (some ⟨s_, 0, none⟩))]) (fun s_ w' => (w'.cell? ⟨gb232, 0, none⟩ = some (.bool a1_0) ∧ w'.cell? ⟨gb232, 1, none⟩ = some (.int .i64 a1_1) ∧ w'.cell? ⟨gb233, 0, none⟩ = some (.bool a2_0) ∧ w'.cell? ⟨gb233, 1, none⟩ = some (.int .i64 a2_1)) ∧ (w'.heap[gb232]? = some (.cells #[.bool a1_0, .int .i64 a1_1] 23 (0, 0))) ∧ (w'.heap[gb233]? = some (.cells #[.bool a2_0, .int .i64 a2_1] 23 (0, 0))) ∧ (w'.heap[gb241]? = some (.cells #[.bool t238, .int .i64 t239] 24 (0, 0))) ∧ (w'.heap[gb249]? = some (.cells #[.bool t246, .int .i64 t247] 24 (0, 0))) ∧ (w'.heap[gb257]? = some (.cells #[.bool t254, .int .i64 t255] 24 (0, 0))) ∧ (w'.heap[gb268]? = some (.cells #[.bool t265, .int .i64 t266] 24 (0, 0))) ∧ (w'.heap[s_]? = some (.cells #[.bool false, .int .i64 0] 24 (0, 0))) ∧ (w.heap.size ≤ s_) ∧ (w.heap.size ≤ s_) ∧ (gb232 ≠ s_) ∧ (s_ ≠ gb232) ∧ (gb233 ≠ s_) ∧ (s_ ≠ gb233) ∧ (gb241 ≠ s_) ∧ (s_ ≠ gb241) ∧ (gb249 ≠ s_) ∧ (s_ ≠ gb249) ∧ (gb257 ≠ s_) ∧ (s_ ≠ gb257) ∧ (gb268 ≠ s_) ∧ (s_ ≠ gb268) ∧ (Below w.heap.size w w')) ?_ ?_
      rotate_left
      ·
       intro hCont
       refine two_ (i := 1) (j := 5) (Ni := some 78) (Nj := some 15) #[true, true, true, false, false, false, false] #[true, false, true, false, false, true, false] rfl rfl rfl rfl (by kernel_rfl) (by decide) (by decide) (fun K hK => ?_) (fun K hK => ?_)
       ·
        skip
        refine goes_ Try.func14 (by kernel_rfl) rfl #[.agg #[.bool a1_0, .int .i64 a1_1]] (by rfl) rfl rfl (mapq rfl) ?_
        with_reducible refine (avermentlaw09_To.calls a1_0 a1_1 t269 t270 _ A99.out).mono ?_
        rintro e w156 ⟨rfl, hb⟩
        refine ⟨_, rfl, ?_⟩
        replace BK232 := bb BK232 hb rfl; replace BK233 := bb BK233 hb rfl; replace BK241 := bb BK241 hb rfl; replace BK249 := bb BK249 hb rfl; replace BK257 := bb BK257 hb rfl; replace BK268 := bb BK268 hb rfl; replace HB := hst HB hb rfl
        (try clear hb)
        refine hK.out _ _ ⟨bc BK232 0 rfl, bc BK232 1 rfl, bc BK233 0 rfl, bc BK233 1 rfl⟩ (fun hHeld => ?_)
        clear hK K
        refine norm_ (a' := ?_) ?_ ?_
        rotate_left; · (show Act.put _ (some 78) _ = _; simp only [Act.put, List.setIfInBounds_toArray, List.set_cons_zero, List.set_cons_succ, i64_w, i32_w]; rfl)
        refine two_ (i := 3) (j := 5) (Ni := some 80) (Nj := some 15) #[true, true, true, true, false, false, false] #[true, true, true, false, false, true, false] rfl rfl rfl rfl (by kernel_rfl) (by decide) (by decide) (fun K hK => ?_) (fun K hK => ?_)
        ·
         skip
         refine goes_ Try.func14 (by kernel_rfl) rfl #[.agg #[.bool a2_0, .int .i64 a2_1]] (by rfl) rfl rfl (mapq rfl) ?_
         with_reducible refine (avermentlaw09_To.calls a2_0 a2_1 t271 t272 _ A100.out).mono ?_
         rintro e w157 ⟨rfl, hb⟩
         refine ⟨_, rfl, ?_⟩
         replace BK232 := bb BK232 hb rfl; replace BK233 := bb BK233 hb rfl; replace BK241 := bb BK241 hb rfl; replace BK249 := bb BK249 hb rfl; replace BK257 := bb BK257 hb rfl; replace BK268 := bb BK268 hb rfl; replace HB := hst HB hb rfl
         (try clear hb)
         refine hK.out _ _ ⟨bc BK232 0 rfl, bc BK232 1 rfl, bc BK233 0 rfl, bc BK233 1 rfl⟩ (fun hHeld => ?_)
         clear hK K
         refine norm_ (a' := ?_) ?_ ?_
         rotate_left; · (show Act.put _ (some 80) _ = _; simp only [Act.put, List.setIfInBounds_toArray, List.set_cons_zero, List.set_cons_succ, i64_w, i32_w]; rfl)
         refine two_ (i := 4) (j := 5) (Ni := some 81) (Nj := some 15) #[true, true, true, true, true, false, false] #[true, true, true, true, false, true, false] rfl rfl rfl rfl (by kernel_rfl) (by decide) (by decide) (fun K hK => ?_) (fun K hK => ?_)
         ·
          skip
          refine goes_ Try.func23 (by kernel_rfl) rfl #[.agg #[.bool t269, .int .i64 t270], .agg #[.bool t271, .int .i64 t272]] (by rfl) rfl rfl (mapq rfl) ?_
          with_reducible refine (known_Join.calls t269 t270 t271 t272 t273 t274 _ A101.out).mono ?_
          rintro e w158 ⟨rfl, hb⟩
          refine ⟨_, rfl, ?_⟩
          replace BK232 := bb BK232 hb rfl; replace BK233 := bb BK233 hb rfl; replace BK241 := bb BK241 hb rfl; replace BK249 := bb BK249 hb rfl; replace BK257 := bb BK257 hb rfl; replace BK268 := bb BK268 hb rfl; replace HB := hst HB hb rfl
          (try clear hb)
          refine hK.out _ _ ⟨bc BK232 0 rfl, bc BK232 1 rfl, bc BK233 0 rfl, bc BK233 1 rfl⟩ (fun hHeld => ?_)
          clear hK K
          refine norm_ (a' := ?_) ?_ ?_
          rotate_left; · (show Act.put _ (some 81) _ = _; simp only [Act.put, List.setIfInBounds_toArray, List.set_cons_zero, List.set_cons_succ, i64_w, i32_w]; rfl)
          refine one_ (i := 5) (N := some 15) #[true, true, true, true, true, true, false] rfl rfl (by kernel_rfl) (by decide) (fun K hK => ?_)
          refine box_step ?hg (N := 15) ?hd (cs := #[.bool false, .int .i64 0]) (t := 24) ?hr ?_; (case hd => rfl); (case hg => rfl); (case hr => first | (go_simp; done) | (go_simp; rfl))
          intro gb275 hg w159 hbox hb
          have BK275 := Aside0.mk (hbox)
          have GW275 := geb hg HB rfl
          have GE275 := geb hg HB rfl
          have NB232_275 := nbl hg BK232 rfl
          have NB275_232 := nbr hg BK232 rfl
          have NB233_275 := nbl hg BK233 rfl
          have NB275_233 := nbr hg BK233 rfl
          have NB241_275 := nbl hg BK241 rfl
          have NB275_241 := nbr hg BK241 rfl
          have NB249_275 := nbl hg BK249 rfl
          have NB275_249 := nbr hg BK249 rfl
          have NB257_275 := nbl hg BK257 rfl
          have NB275_257 := nbr hg BK257 rfl
          have NB268_275 := nbl hg BK268 rfl
          have NB275_268 := nbr hg BK268 rfl
          replace BK232 := bb BK232 hb rfl; replace BK233 := bb BK233 hb rfl; replace BK241 := bb BK241 hb rfl; replace BK249 := bb BK249 hb rfl; replace BK257 := bb BK257 hb rfl; replace BK268 := bb BK268 hb rfl; replace HB := hst HB hb rfl
          clear hb hbox hg
          refine hK.out _ _ ⟨bc BK232 0 rfl, bc BK232 1 rfl, bc BK233 0 rfl, bc BK233 1 rfl⟩ (fun hHeld => ?_)
          clear hK K
          refine norm_ (a' := ?_) ?_ ?_
          rotate_left; · (show Act.put _ (some 15) _ = _; simp only [Act.put, List.setIfInBounds_toArray, List.set_cons_zero, List.set_cons_succ, i64_w, i32_w]; rfl)
          exact norm_ (by simp only [putAll, Act.put, List.setIfInBounds_toArray, List.set_cons_zero, List.set_cons_succ]) (hCont (gb275) _ ⟨hHeld, BK232.out, BK233.out, BK241.out, BK249.out, BK257.out, BK268.out, BK275.out, GW275.out, GE275.out, NB232_275.out, NB275_232.out, NB233_275.out, NB275_233.out, NB241_275.out, NB275_241.out, NB249_275.out, NB275_249.out, NB257_275.out, NB275_257.out, NB268_275.out, NB275_268.out, (by repeat (first | (with_reducible first | exact HB.out | apply below_alloc | apply pw_below_drewN | apply below_drew1 | refine below_set ?_ GE232.out | refine below_set ?_ GE233.out | refine below_set ?_ GE241.out | refine below_set ?_ GE249.out | refine below_set ?_ GE257.out | refine below_set ?_ GE268.out | refine below_set ?_ GE275.out) | exact HB.out))⟩)
         ·
          skip
          refine box_step ?hg (N := 15) ?hd (cs := #[.bool false, .int .i64 0]) (t := 24) ?hr ?_; (case hd => rfl); (case hg => rfl); (case hr => first | (go_simp; done) | (go_simp; rfl))
          intro gb275 hg w158 hbox hb
          have BK275 := Aside0.mk (hbox)
          have GW275 := geb hg HB rfl
          have GE275 := geb hg HB rfl
          have NB232_275 := nbl hg BK232 rfl
          have NB275_232 := nbr hg BK232 rfl
          have NB233_275 := nbl hg BK233 rfl
          have NB275_233 := nbr hg BK233 rfl
          have NB241_275 := nbl hg BK241 rfl
          have NB275_241 := nbr hg BK241 rfl
          have NB249_275 := nbl hg BK249 rfl
          have NB275_249 := nbr hg BK249 rfl
          have NB257_275 := nbl hg BK257 rfl
          have NB275_257 := nbr hg BK257 rfl
          have NB268_275 := nbl hg BK268 rfl
          have NB275_268 := nbr hg BK268 rfl
          replace BK232 := bb BK232 hb rfl; replace BK233 := bb BK233 hb rfl; replace BK241 := bb BK241 hb rfl; replace BK249 := bb BK249 hb rfl; replace BK257 := bb BK257 hb rfl; replace BK268 := bb BK268 hb rfl; replace HB := hst HB hb rfl
          clear hb hbox hg
          refine hK.out _ _ ⟨bc BK232 0 rfl, bc BK232 1 rfl, bc BK233 0 rfl, bc BK233 1 rfl⟩ (fun hHeld => ?_)
          clear hK K
          refine norm_ (a' := ?_) ?_ ?_
          rotate_left; · (show Act.put _ (some 15) _ = _; simp only [Act.put, List.setIfInBounds_toArray, List.set_cons_zero, List.set_cons_succ, i64_w, i32_w]; rfl)
          refine one_ (i := 4) (N := some 81) #[true, true, true, true, true, true, false] rfl rfl (by kernel_rfl) (by decide) (fun K hK => ?_)
          refine goes_ Try.func23 (by kernel_rfl) rfl #[.agg #[.bool t269, .int .i64 t270], .agg #[.bool t271, .int .i64 t272]] (by rfl) rfl rfl (mapq rfl) ?_
          with_reducible refine (known_Join.calls t269 t270 t271 t272 t273 t274 _ A101.out).mono ?_
          rintro e w159 ⟨rfl, hb⟩
          refine ⟨_, rfl, ?_⟩
          replace BK232 := bb BK232 hb rfl; replace BK233 := bb BK233 hb rfl; replace BK241 := bb BK241 hb rfl; replace BK249 := bb BK249 hb rfl; replace BK257 := bb BK257 hb rfl; replace BK268 := bb BK268 hb rfl; replace BK275 := bb BK275 hb rfl; replace HB := hst HB hb rfl
          (try clear hb)
          refine hK.out _ _ ⟨bc BK232 0 rfl, bc BK232 1 rfl, bc BK233 0 rfl, bc BK233 1 rfl⟩ (fun hHeld => ?_)
          clear hK K
          refine norm_ (a' := ?_) ?_ ?_
          rotate_left; · (show Act.put _ (some 81) _ = _; simp only [Act.put, List.setIfInBounds_toArray, List.set_cons_zero, List.set_cons_succ, i64_w, i32_w]; rfl)
          exact norm_ (by simp only [putAll, Act.put, List.setIfInBounds_toArray, List.set_cons_zero, List.set_cons_succ]) (hCont (gb275) _ ⟨hHeld, BK232.out, BK233.out, BK241.out, BK249.out, BK257.out, BK268.out, BK275.out, GW275.out, GE275.out, NB232_275.out, NB275_232.out, NB233_275.out, NB275_233.out, NB241_275.out, NB275_241.out, NB249_275.out, NB275_249.out, NB257_275.out, NB275_257.out, NB268_275.out, NB275_268.out, (by repeat (first | (with_reducible first | exact HB.out | apply below_alloc | apply pw_below_drewN | apply below_drew1 | refine below_set ?_ GE232.out | refine below_set ?_ GE233.out | refine below_set ?_ GE241.out | refine below_set ?_ GE249.out | refine below_set ?_ GE257.out | refine below_set ?_ GE268.out | refine below_set ?_ GE275.out) | exact HB.out))⟩)
        ·
         skip
         refine box_step ?hg (N := 15) ?hd (cs := #[.bool false, .int .i64 0]) (t := 24) ?hr ?_; (case hd => rfl); (case hg => rfl); (case hr => first | (go_simp; done) | (go_simp; rfl))
         intro gb275 hg w157 hbox hb
         have BK275 := Aside0.mk (hbox)
         have GW275 := geb hg HB rfl
         have GE275 := geb hg HB rfl
         have NB232_275 := nbl hg BK232 rfl
         have NB275_232 := nbr hg BK232 rfl
         have NB233_275 := nbl hg BK233 rfl
         have NB275_233 := nbr hg BK233 rfl
         have NB241_275 := nbl hg BK241 rfl
         have NB275_241 := nbr hg BK241 rfl
         have NB249_275 := nbl hg BK249 rfl
         have NB275_249 := nbr hg BK249 rfl
         have NB257_275 := nbl hg BK257 rfl
         have NB275_257 := nbr hg BK257 rfl
         have NB268_275 := nbl hg BK268 rfl
         have NB275_268 := nbr hg BK268 rfl
         replace BK232 := bb BK232 hb rfl; replace BK233 := bb BK233 hb rfl; replace BK241 := bb BK241 hb rfl; replace BK249 := bb BK249 hb rfl; replace BK257 := bb BK257 hb rfl; replace BK268 := bb BK268 hb rfl; replace HB := hst HB hb rfl
         clear hb hbox hg
         refine hK.out _ _ ⟨bc BK232 0 rfl, bc BK232 1 rfl, bc BK233 0 rfl, bc BK233 1 rfl⟩ (fun hHeld => ?_)
         clear hK K
         refine norm_ (a' := ?_) ?_ ?_
         rotate_left; · (show Act.put _ (some 15) _ = _; simp only [Act.put, List.setIfInBounds_toArray, List.set_cons_zero, List.set_cons_succ, i64_w, i32_w]; rfl)
         refine one_ (i := 3) (N := some 80) #[true, true, true, true, false, true, false] rfl rfl (by kernel_rfl) (by decide) (fun K hK => ?_)
         refine goes_ Try.func14 (by kernel_rfl) rfl #[.agg #[.bool a2_0, .int .i64 a2_1]] (by rfl) rfl rfl (mapq rfl) ?_
         with_reducible refine (avermentlaw09_To.calls a2_0 a2_1 t271 t272 _ A100.out).mono ?_
         rintro e w158 ⟨rfl, hb⟩
         refine ⟨_, rfl, ?_⟩
         replace BK232 := bb BK232 hb rfl; replace BK233 := bb BK233 hb rfl; replace BK241 := bb BK241 hb rfl; replace BK249 := bb BK249 hb rfl; replace BK257 := bb BK257 hb rfl; replace BK268 := bb BK268 hb rfl; replace BK275 := bb BK275 hb rfl; replace HB := hst HB hb rfl
         (try clear hb)
         refine hK.out _ _ ⟨bc BK232 0 rfl, bc BK232 1 rfl, bc BK233 0 rfl, bc BK233 1 rfl⟩ (fun hHeld => ?_)
         clear hK K
         refine norm_ (a' := ?_) ?_ ?_
         rotate_left; · (show Act.put _ (some 80) _ = _; simp only [Act.put, List.setIfInBounds_toArray, List.set_cons_zero, List.set_cons_succ, i64_w, i32_w]; rfl)
         refine one_ (i := 4) (N := some 81) #[true, true, true, true, true, true, false] rfl rfl (by kernel_rfl) (by decide) (fun K hK => ?_)
         refine goes_ Try.func23 (by kernel_rfl) rfl #[.agg #[.bool t269, .int .i64 t270], .agg #[.bool t271, .int .i64 t272]] (by rfl) rfl rfl (mapq rfl) ?_
         with_reducible refine (known_Join.calls t269 t270 t271 t272 t273 t274 _ A101.out).mono ?_
         rintro e w159 ⟨rfl, hb⟩
         refine ⟨_, rfl, ?_⟩
         replace BK232 := bb BK232 hb rfl; replace BK233 := bb BK233 hb rfl; replace BK241 := bb BK241 hb rfl; replace BK249 := bb BK249 hb rfl; replace BK257 := bb BK257 hb rfl; replace BK268 := bb BK268 hb rfl; replace BK275 := bb BK275 hb rfl; replace HB := hst HB hb rfl
         (try clear hb)
         refine hK.out _ _ ⟨bc BK232 0 rfl, bc BK232 1 rfl, bc BK233 0 rfl, bc BK233 1 rfl⟩ (fun hHeld => ?_)
         clear hK K
         refine norm_ (a' := ?_) ?_ ?_
         rotate_left; · (show Act.put _ (some 81) _ = _; simp only [Act.put, List.setIfInBounds_toArray, List.set_cons_zero, List.set_cons_succ, i64_w, i32_w]; rfl)
         exact norm_ (by simp only [putAll, Act.put, List.setIfInBounds_toArray, List.set_cons_zero, List.set_cons_succ]) (hCont (gb275) _ ⟨hHeld, BK232.out, BK233.out, BK241.out, BK249.out, BK257.out, BK268.out, BK275.out, GW275.out, GE275.out, NB232_275.out, NB275_232.out, NB233_275.out, NB275_233.out, NB241_275.out, NB275_241.out, NB249_275.out, NB275_249.out, NB257_275.out, NB275_257.out, NB268_275.out, NB275_268.out, (by repeat (first | (with_reducible first | exact HB.out | apply below_alloc | apply pw_below_drewN | apply below_drew1 | refine below_set ?_ GE232.out | refine below_set ?_ GE233.out | refine below_set ?_ GE241.out | refine below_set ?_ GE249.out | refine below_set ?_ GE257.out | refine below_set ?_ GE268.out | refine below_set ?_ GE275.out) | exact HB.out))⟩)
       ·
        skip
        refine box_step ?hg (N := 15) ?hd (cs := #[.bool false, .int .i64 0]) (t := 24) ?hr ?_; (case hd => rfl); (case hg => rfl); (case hr => first | (go_simp; done) | (go_simp; rfl))
        intro gb275 hg w156 hbox hb
        have BK275 := Aside0.mk (hbox)
        have GW275 := geb hg HB rfl
        have GE275 := geb hg HB rfl
        have NB232_275 := nbl hg BK232 rfl
        have NB275_232 := nbr hg BK232 rfl
        have NB233_275 := nbl hg BK233 rfl
        have NB275_233 := nbr hg BK233 rfl
        have NB241_275 := nbl hg BK241 rfl
        have NB275_241 := nbr hg BK241 rfl
        have NB249_275 := nbl hg BK249 rfl
        have NB275_249 := nbr hg BK249 rfl
        have NB257_275 := nbl hg BK257 rfl
        have NB275_257 := nbr hg BK257 rfl
        have NB268_275 := nbl hg BK268 rfl
        have NB275_268 := nbr hg BK268 rfl
        replace BK232 := bb BK232 hb rfl; replace BK233 := bb BK233 hb rfl; replace BK241 := bb BK241 hb rfl; replace BK249 := bb BK249 hb rfl; replace BK257 := bb BK257 hb rfl; replace BK268 := bb BK268 hb rfl; replace HB := hst HB hb rfl
        clear hb hbox hg
        refine hK.out _ _ ⟨bc BK232 0 rfl, bc BK232 1 rfl, bc BK233 0 rfl, bc BK233 1 rfl⟩ (fun hHeld => ?_)
        clear hK K
        refine norm_ (a' := ?_) ?_ ?_
        rotate_left; · (show Act.put _ (some 15) _ = _; simp only [Act.put, List.setIfInBounds_toArray, List.set_cons_zero, List.set_cons_succ, i64_w, i32_w]; rfl)
        refine one_ (i := 1) (N := some 78) #[true, true, true, false, false, true, false] rfl rfl (by kernel_rfl) (by decide) (fun K hK => ?_)
        refine goes_ Try.func14 (by kernel_rfl) rfl #[.agg #[.bool a1_0, .int .i64 a1_1]] (by rfl) rfl rfl (mapq rfl) ?_
        with_reducible refine (avermentlaw09_To.calls a1_0 a1_1 t269 t270 _ A99.out).mono ?_
        rintro e w157 ⟨rfl, hb⟩
        refine ⟨_, rfl, ?_⟩
        replace BK232 := bb BK232 hb rfl; replace BK233 := bb BK233 hb rfl; replace BK241 := bb BK241 hb rfl; replace BK249 := bb BK249 hb rfl; replace BK257 := bb BK257 hb rfl; replace BK268 := bb BK268 hb rfl; replace BK275 := bb BK275 hb rfl; replace HB := hst HB hb rfl
        (try clear hb)
        refine hK.out _ _ ⟨bc BK232 0 rfl, bc BK232 1 rfl, bc BK233 0 rfl, bc BK233 1 rfl⟩ (fun hHeld => ?_)
        clear hK K
        refine norm_ (a' := ?_) ?_ ?_
        rotate_left; · (show Act.put _ (some 78) _ = _; simp only [Act.put, List.setIfInBounds_toArray, List.set_cons_zero, List.set_cons_succ, i64_w, i32_w]; rfl)
        refine one_ (i := 3) (N := some 80) #[true, true, true, true, false, true, false] rfl rfl (by kernel_rfl) (by decide) (fun K hK => ?_)
        refine goes_ Try.func14 (by kernel_rfl) rfl #[.agg #[.bool a2_0, .int .i64 a2_1]] (by rfl) rfl rfl (mapq rfl) ?_
        with_reducible refine (avermentlaw09_To.calls a2_0 a2_1 t271 t272 _ A100.out).mono ?_
        rintro e w158 ⟨rfl, hb⟩
        refine ⟨_, rfl, ?_⟩
        replace BK232 := bb BK232 hb rfl; replace BK233 := bb BK233 hb rfl; replace BK241 := bb BK241 hb rfl; replace BK249 := bb BK249 hb rfl; replace BK257 := bb BK257 hb rfl; replace BK268 := bb BK268 hb rfl; replace BK275 := bb BK275 hb rfl; replace HB := hst HB hb rfl
        (try clear hb)
        refine hK.out _ _ ⟨bc BK232 0 rfl, bc BK232 1 rfl, bc BK233 0 rfl, bc BK233 1 rfl⟩ (fun hHeld => ?_)
        clear hK K
        refine norm_ (a' := ?_) ?_ ?_
        rotate_left; · (show Act.put _ (some 80) _ = _; simp only [Act.put, List.setIfInBounds_toArray, List.set_cons_zero, List.set_cons_succ, i64_w, i32_w]; rfl)
        refine one_ (i := 4) (N := some 81) #[true, true, true, true, true, true, false] rfl rfl (by kernel_rfl) (by decide) (fun K hK => ?_)
        refine goes_ Try.func23 (by kernel_rfl) rfl #[.agg #[.bool t269, .int .i64 t270], .agg #[.bool t271, .int .i64 t272]] (by rfl) rfl rfl (mapq rfl) ?_
        with_reducible refine (known_Join.calls t269 t270 t271 t272 t273 t274 _ A101.out).mono ?_
        rintro e w159 ⟨rfl, hb⟩
        refine ⟨_, rfl, ?_⟩
        replace BK232 := bb BK232 hb rfl; replace BK233 := bb BK233 hb rfl; replace BK241 := bb BK241 hb rfl; replace BK249 := bb BK249 hb rfl; replace BK257 := bb BK257 hb rfl; replace BK268 := bb BK268 hb rfl; replace BK275 := bb BK275 hb rfl; replace HB := hst HB hb rfl
        (try clear hb)
        refine hK.out _ _ ⟨bc BK232 0 rfl, bc BK232 1 rfl, bc BK233 0 rfl, bc BK233 1 rfl⟩ (fun hHeld => ?_)
        clear hK K
        refine norm_ (a' := ?_) ?_ ?_
        rotate_left; · (show Act.put _ (some 81) _ = _; simp only [Act.put, List.setIfInBounds_toArray, List.set_cons_zero, List.set_cons_succ, i64_w, i32_w]; rfl)
        exact norm_ (by simp only [putAll, Act.put, List.setIfInBounds_toArray, List.set_cons_zero, List.set_cons_succ]) (hCont (gb275) _ ⟨hHeld, BK232.out, BK233.out, BK241.out, BK249.out, BK257.out, BK268.out, BK275.out, GW275.out, GE275.out, NB232_275.out, NB275_232.out, NB233_275.out, NB275_233.out, NB241_275.out, NB275_241.out, NB249_275.out, NB275_249.out, NB257_275.out, NB275_257.out, NB268_275.out, NB275_268.out, (by repeat (first | (with_reducible first | exact HB.out | apply below_alloc | apply pw_below_drewN | apply below_drew1 | refine below_set ?_ GE232.out | refine below_set ?_ GE233.out | refine below_set ?_ GE241.out | refine below_set ?_ GE249.out | refine below_set ?_ GE257.out | refine below_set ?_ GE268.out | refine below_set ?_ GE275.out) | exact HB.out))⟩)
      rintro gb275 w160 ⟨hS_, h0_, h1_, h2_, h3_, h4_, h5_, h6_, h7_, h8_, h9_, h10_, h11_, h12_, h13_, h14_, h15_, h16_, h17_, h18_, h19_, h20_, h21_⟩
      have n0_ : Aside0 (w160.heap[gb232]? = some (.cells #[.bool a1_0, .int .i64 a1_1] 23 (0, 0))) := ⟨h0_⟩
      have n1_ : Aside0 (w160.heap[gb233]? = some (.cells #[.bool a2_0, .int .i64 a2_1] 23 (0, 0))) := ⟨h1_⟩
      have n2_ : Aside0 (w160.heap[gb241]? = some (.cells #[.bool t238, .int .i64 t239] 24 (0, 0))) := ⟨h2_⟩
      have n3_ : Aside0 (w160.heap[gb249]? = some (.cells #[.bool t246, .int .i64 t247] 24 (0, 0))) := ⟨h3_⟩
      have n4_ : Aside0 (w160.heap[gb257]? = some (.cells #[.bool t254, .int .i64 t255] 24 (0, 0))) := ⟨h4_⟩
      have n5_ : Aside0 (w160.heap[gb268]? = some (.cells #[.bool t265, .int .i64 t266] 24 (0, 0))) := ⟨h5_⟩
      have n6_ : Aside0 (w160.heap[gb275]? = some (.cells #[.bool false, .int .i64 0] 24 (0, 0))) := ⟨h6_⟩
      have n7_ : Aside0 (w.heap.size ≤ gb275) := ⟨h7_⟩
      have n8_ : Aside0 (w.heap.size ≤ gb275) := ⟨h8_⟩
      have n9_ : Aside0 (gb232 ≠ gb275) := ⟨h9_⟩
      have n10_ : Aside0 (gb275 ≠ gb232) := ⟨h10_⟩
      have n11_ : Aside0 (gb233 ≠ gb275) := ⟨h11_⟩
      have n12_ : Aside0 (gb275 ≠ gb233) := ⟨h12_⟩
      have n13_ : Aside0 (gb241 ≠ gb275) := ⟨h13_⟩
      have n14_ : Aside0 (gb275 ≠ gb241) := ⟨h14_⟩
      have n15_ : Aside0 (gb249 ≠ gb275) := ⟨h15_⟩
      have n16_ : Aside0 (gb275 ≠ gb249) := ⟨h16_⟩
      have n17_ : Aside0 (gb257 ≠ gb275) := ⟨h17_⟩
      have n18_ : Aside0 (gb275 ≠ gb257) := ⟨h18_⟩
      have n19_ : Aside0 (gb268 ≠ gb275) := ⟨h19_⟩
      have n20_ : Aside0 (gb275 ≠ gb268) := ⟨h20_⟩
      have n21_ : Aside0 (Below w.heap.size w w160) := ⟨h21_⟩
      clear BK232
      clear BK233
      clear BK241
      clear BK249
      clear BK257
      clear BK268
      clear HB
      clear h0_ h1_ h2_ h3_ h4_ h5_ h6_ h7_ h8_ h9_ h10_ h11_ h12_ h13_ h14_ h15_ h16_ h17_ h18_ h19_ h20_ h21_
      have BK232 := n0_
      have BK233 := n1_
      have BK241 := n2_
      have BK249 := n3_
      have BK257 := n4_
      have BK268 := n5_
      have BK275 := n6_
      have GW275 := n7_
      have GE275 := n8_
      have NB232_275 := n9_
      have NB275_232 := n10_
      have NB233_275 := n11_
      have NB275_233 := n12_
      have NB241_275 := n13_
      have NB275_241 := n14_
      have NB249_275 := n15_
      have NB275_249 := n16_
      have NB257_275 := n17_
      have NB275_257 := n18_
      have NB268_275 := n19_
      have NB275_268 := n20_
      have HB := n21_
      clear n0_ n1_ n2_ n3_ n4_ n5_ n6_ n7_ n8_ n9_ n10_ n11_ n12_ n13_ n14_ n15_ n16_ n17_ n18_ n19_ n20_ n21_
      have hHeld : w160.cell? ⟨gb232, 0, none⟩ = some (.bool a1_0) ∧ w160.cell? ⟨gb232, 1, none⟩ = some (.int .i64 a1_1) ∧ w160.cell? ⟨gb233, 0, none⟩ = some (.bool a2_0) ∧ w160.cell? ⟨gb233, 1, none⟩ = some (.int .i64 a2_1) := hS_
      refine norm_ (a' := ?_) ?_ ?_
      rotate_left
      ·
       simp only [putAll, Act.put, List.setIfInBounds_toArray, List.set_cons_zero, List.set_cons_succ]
       rfl
      refine one_ (i := 6) (N := none) #[true, true, true, true, true, true, true] rfl rfl (by kernel_rfl) (by decide) (fun K hK => ?_)
      have hs161 : w160.cell? ⟨gb275, 0, none⟩ = some (.bool false) := bc BK275 0 rfl
      have hfs161 := blk_frozen BK275.out 0
      have hns161_0 := NB232_275.out
      have hns161_1 := NB233_275.out
      have hns161_2 := NB241_275.out
      have hns161_3 := NB249_275.out
      have hns161_4 := NB257_275.out
      have hns161_5 := NB268_275.out
      have hms161_0 := NB275_232.out
      have hms161_1 := NB275_233.out
      have hms161_2 := NB275_241.out
      have hms161_3 := NB275_249.out
      have hms161_4 := NB275_257.out
      have hms161_5 := NB275_268.out
      have hs162 : w160.cell? ⟨gb275, 1, none⟩ = some (.int .i64 0) := bc BK275 1 rfl
      have hfs162 := blk_frozen BK275.out 1
      have hns162_0 := NB232_275.out
      have hns162_1 := NB233_275.out
      have hns162_2 := NB241_275.out
      have hns162_3 := NB249_275.out
      have hns162_4 := NB257_275.out
      have hns162_5 := NB268_275.out
      have hms162_0 := NB275_232.out
      have hms162_1 := NB275_233.out
      have hms162_2 := NB275_241.out
      have hms162_3 := NB275_249.out
      have hms162_4 := NB275_257.out
      have hms162_5 := NB275_268.out
      refine skip_ (w1 := ?_) (by rfl) rfl ?_ ?_
      rotate_left
      ·
       go_simp
       rfl
      refine hK.out _ _ ⟨((cell_far (p := ⟨gb275, _, none⟩) NB232_275.out _).trans (((cell_far (p := ⟨gb275, _, none⟩) NB232_275.out _).trans (hHeld.1)))), ((cell_far (p := ⟨gb275, _, none⟩) NB232_275.out _).trans (((cell_far (p := ⟨gb275, _, none⟩) NB232_275.out _).trans (hHeld.2.1)))), ((cell_far (p := ⟨gb275, _, none⟩) NB233_275.out _).trans (((cell_far (p := ⟨gb275, _, none⟩) NB233_275.out _).trans (hHeld.2.2.1)))), ((cell_far (p := ⟨gb275, _, none⟩) NB233_275.out _).trans (((cell_far (p := ⟨gb275, _, none⟩) NB233_275.out _).trans (hHeld.2.2.2))))⟩ (fun hHeld => ?_)
      clear hK K
      refine done_ (by kernel_rfl) ?_
      try go_wp2
      have n0_ : Aside0 (((w160.setCell ⟨gb275, 0, none⟩ (.bool t273)).setCell ⟨gb275, 1, none⟩ (.int .i64 t274)).heap[gb232]? = some (.cells #[.bool a1_0, .int .i64 a1_1] 23 (0, 0))) := ⟨by (with_reducible repeat (first | refine blk_drewN ?_ _ | refine blk_drew ?_ | refine blk_alloc ?_ _)); refine blk_far ?_ NB232_275.out _; (with_reducible repeat (first | refine blk_drewN ?_ _ | refine blk_drew ?_ | refine blk_alloc ?_ _)); refine blk_far ?_ NB232_275.out _; (with_reducible repeat (first | refine blk_drewN ?_ _ | refine blk_drew ?_ | refine blk_alloc ?_ _)); exact BK232.out⟩
      have n1_ : Aside0 (((w160.setCell ⟨gb275, 0, none⟩ (.bool t273)).setCell ⟨gb275, 1, none⟩ (.int .i64 t274)).heap[gb233]? = some (.cells #[.bool a2_0, .int .i64 a2_1] 23 (0, 0))) := ⟨by (with_reducible repeat (first | refine blk_drewN ?_ _ | refine blk_drew ?_ | refine blk_alloc ?_ _)); refine blk_far ?_ NB233_275.out _; (with_reducible repeat (first | refine blk_drewN ?_ _ | refine blk_drew ?_ | refine blk_alloc ?_ _)); refine blk_far ?_ NB233_275.out _; (with_reducible repeat (first | refine blk_drewN ?_ _ | refine blk_drew ?_ | refine blk_alloc ?_ _)); exact BK233.out⟩
      have n2_ : Aside0 (((w160.setCell ⟨gb275, 0, none⟩ (.bool t273)).setCell ⟨gb275, 1, none⟩ (.int .i64 t274)).heap[gb241]? = some (.cells #[.bool t238, .int .i64 t239] 24 (0, 0))) := ⟨by (with_reducible repeat (first | refine blk_drewN ?_ _ | refine blk_drew ?_ | refine blk_alloc ?_ _)); refine blk_far ?_ NB241_275.out _; (with_reducible repeat (first | refine blk_drewN ?_ _ | refine blk_drew ?_ | refine blk_alloc ?_ _)); refine blk_far ?_ NB241_275.out _; (with_reducible repeat (first | refine blk_drewN ?_ _ | refine blk_drew ?_ | refine blk_alloc ?_ _)); exact BK241.out⟩
      have n3_ : Aside0 (((w160.setCell ⟨gb275, 0, none⟩ (.bool t273)).setCell ⟨gb275, 1, none⟩ (.int .i64 t274)).heap[gb249]? = some (.cells #[.bool t246, .int .i64 t247] 24 (0, 0))) := ⟨by (with_reducible repeat (first | refine blk_drewN ?_ _ | refine blk_drew ?_ | refine blk_alloc ?_ _)); refine blk_far ?_ NB249_275.out _; (with_reducible repeat (first | refine blk_drewN ?_ _ | refine blk_drew ?_ | refine blk_alloc ?_ _)); refine blk_far ?_ NB249_275.out _; (with_reducible repeat (first | refine blk_drewN ?_ _ | refine blk_drew ?_ | refine blk_alloc ?_ _)); exact BK249.out⟩
      have n4_ : Aside0 (((w160.setCell ⟨gb275, 0, none⟩ (.bool t273)).setCell ⟨gb275, 1, none⟩ (.int .i64 t274)).heap[gb257]? = some (.cells #[.bool t254, .int .i64 t255] 24 (0, 0))) := ⟨by (with_reducible repeat (first | refine blk_drewN ?_ _ | refine blk_drew ?_ | refine blk_alloc ?_ _)); refine blk_far ?_ NB257_275.out _; (with_reducible repeat (first | refine blk_drewN ?_ _ | refine blk_drew ?_ | refine blk_alloc ?_ _)); refine blk_far ?_ NB257_275.out _; (with_reducible repeat (first | refine blk_drewN ?_ _ | refine blk_drew ?_ | refine blk_alloc ?_ _)); exact BK257.out⟩
      have n5_ : Aside0 (((w160.setCell ⟨gb275, 0, none⟩ (.bool t273)).setCell ⟨gb275, 1, none⟩ (.int .i64 t274)).heap[gb268]? = some (.cells #[.bool t265, .int .i64 t266] 24 (0, 0))) := ⟨by (with_reducible repeat (first | refine blk_drewN ?_ _ | refine blk_drew ?_ | refine blk_alloc ?_ _)); refine blk_far ?_ NB268_275.out _; (with_reducible repeat (first | refine blk_drewN ?_ _ | refine blk_drew ?_ | refine blk_alloc ?_ _)); refine blk_far ?_ NB268_275.out _; (with_reducible repeat (first | refine blk_drewN ?_ _ | refine blk_drew ?_ | refine blk_alloc ?_ _)); exact BK268.out⟩
      have n6_ : Aside0 (((w160.setCell ⟨gb275, 0, none⟩ (.bool t273)).setCell ⟨gb275, 1, none⟩ (.int .i64 t274)).heap[gb275]? = some (.cells #[.bool t273, .int .i64 t274] 24 (0, 0))) := ⟨by (with_reducible repeat (first | refine blk_drewN ?_ _ | refine blk_drew ?_ | refine blk_alloc ?_ _)); refine blk_put (cs := #[.bool t273, .int .i64 0]) ?_ 1 _ rfl; (with_reducible repeat (first | refine blk_drewN ?_ _ | refine blk_drew ?_ | refine blk_alloc ?_ _)); refine blk_put (cs := #[.bool false, .int .i64 0]) ?_ 0 _ rfl; (with_reducible repeat (first | refine blk_drewN ?_ _ | refine blk_drew ?_ | refine blk_alloc ?_ _)); exact BK275.out⟩
      have n7_ : Aside0 (Below w.heap.size w ((w160.setCell ⟨gb275, 0, none⟩ (.bool t273)).setCell ⟨gb275, 1, none⟩ (.int .i64 t274))) := ⟨by repeat (first | (with_reducible first | exact HB.out | apply below_alloc | apply pw_below_drewN | apply below_drew1 | refine below_set ?_ GE232.out | refine below_set ?_ GE233.out | refine below_set ?_ GE241.out | refine below_set ?_ GE249.out | refine below_set ?_ GE257.out | refine below_set ?_ GE268.out | refine below_set ?_ GE275.out) | exact HB.out)⟩
      (try clear BK232)
      (try clear BK233)
      (try clear BK241)
      (try clear BK249)
      (try clear BK257)
      (try clear BK268)
      (try clear BK275)
      (try clear HB)
      generalize ((w160.setCell ⟨gb275, 0, none⟩ (.bool t273)).setCell ⟨gb275, 1, none⟩ (.int .i64 t274)) = w163 at n0_ n1_ n2_ n3_ n4_ n5_ n6_ n7_ ⊢
      have BK232 := n0_
      have BK233 := n1_
      have BK241 := n2_
      have BK249 := n3_
      have BK257 := n4_
      have BK268 := n5_
      have BK275 := n6_
      have HB := n7_
      clear n0_ n1_ n2_ n3_ n4_ n5_ n6_ n7_
      replace BK232 := Aside0.mk (blk_drew BK232.out); replace BK233 := Aside0.mk (blk_drew BK233.out); replace BK241 := Aside0.mk (blk_drew BK241.out); replace BK249 := Aside0.mk (blk_drew BK249.out); replace BK257 := Aside0.mk (blk_drew BK257.out); replace BK268 := Aside0.mk (blk_drew BK268.out); replace BK275 := Aside0.mk (blk_drew BK275.out); replace HB := Aside0.mk (below_drew1 HB.out)
      refine start_ (n := 27) (S := fun w' => w'.cell? ⟨gb232, 0, none⟩ = some (.bool a1_0) ∧ w'.cell? ⟨gb232, 1, none⟩ = some (.int .i64 a1_1) ∧ w'.cell? ⟨gb275, 0, none⟩ = some (.bool t273) ∧ w'.cell? ⟨gb275, 1, none⟩ = some (.int .i64 t274) ∧ w'.cell? ⟨gb233, 0, none⟩ = some (.bool a2_0) ∧ w'.cell? ⟨gb233, 1, none⟩ = some (.int .i64 a2_1)) (ds := []) #[false, false, false, false, false, false, false, false, false, false, false, false, false, false, false, false, false, false, false, false, false, false, false, false, false, false, false] (by kernel_rfl) rfl rfl ⟨bc BK232 0 rfl, bc BK232 1 rfl, bc BK275 0 rfl, bc BK275 1 rfl, bc BK233 0 rfl, bc BK233 1 rfl⟩ (fun hHeld => ?_); refine with_tabW avermentlaw09_KnownRises.tab8 avermentlaw09_KnownRises.bits8 (fun HT_ HW_ => ?_)
      generalize w163.drew = w164 at BK232 BK233 BK241 BK249 BK257 BK268 BK275 HB hHeld ⊢
      refine pure_ (i := 0) (N := some 82) (v := ?_) (a' := ?_) #[true, false, false, false, false, false, false, false, false, false, false, false, false, false, false, false, false, false, false, false, false, false, false, false, false, false, false] rfl rfl (any_of HT_.out (by kernel_rfl)) (fun _ _ _ h => h) (Or.inl ⟨by rfl, ?_⟩) ?_ ?_
      rotate_left; · (intro w'; go_simp; with_reducible rfl)
      rotate_left; · (simp only [Act.put, List.setIfInBounds_toArray, List.set_cons_zero, List.set_cons_succ, i64_w, i32_w]; rfl)
      refine pure_ (i := 1) (N := some 83) (v := ?_) (a' := ?_) #[true, true, false, false, false, false, false, false, false, false, false, false, false, false, false, false, false, false, false, false, false, false, false, false, false, false, false] rfl rfl (any_of HT_.out (by kernel_rfl)) (fun _ _ _ h => h) (Or.inl ⟨by rfl, ?_⟩) ?_ ?_
      rotate_left; · (intro w'; go_simp; with_reducible rfl)
      rotate_left; · (simp only [Act.put, List.setIfInBounds_toArray, List.set_cons_zero, List.set_cons_succ, i64_w, i32_w]; rfl)
      refine pure_ (i := 2) (N := some 84) (v := ?_) (a' := ?_) #[true, true, true, false, false, false, false, false, false, false, false, false, false, false, false, false, false, false, false, false, false, false, false, false, false, false, false] rfl rfl (any_of HT_.out (by kernel_rfl)) (fun _ _ _ h => h) (Or.inl ⟨by rfl, ?_⟩) ?_ ?_
      rotate_left; · (intro w'; go_simp; with_reducible rfl)
      rotate_left; · (simp only [Act.put, List.setIfInBounds_toArray, List.set_cons_zero, List.set_cons_succ, i64_w, i32_w]; rfl)
      refine pure_ (i := 3) (N := some 85) (v := undef) (a' := ?_) #[true, true, true, true, false, false, false, false, false, false, false, false, false, false, false, false, false, false, false, false, false, false, false, false, false, false, false] rfl rfl (any_of HT_.out (by kernel_rfl)) (fun _ _ _ h => h) (Or.inr ⟨by rfl, rfl⟩) ?_ ?_
      rotate_left
      ·
       simp only [Act.put, List.setIfInBounds_toArray, List.set_cons_zero, List.set_cons_succ, i64_w, i32_w]
       rfl
      refine pure_ (i := 4) (N := some 86) (v := undef) (a' := ?_) #[true, true, true, true, true, false, false, false, false, false, false, false, false, false, false, false, false, false, false, false, false, false, false, false, false, false, false] rfl rfl (any_of HT_.out (by kernel_rfl)) (fun _ _ _ h => h) (Or.inr ⟨by rfl, rfl⟩) ?_ ?_
      rotate_left
      ·
       simp only [Act.put, List.setIfInBounds_toArray, List.set_cons_zero, List.set_cons_succ, i64_w, i32_w]
       rfl
      refine pure_ (i := 5) (N := some 87) (v := undef) (a' := ?_) #[true, true, true, true, true, true, false, false, false, false, false, false, false, false, false, false, false, false, false, false, false, false, false, false, false, false, false] rfl rfl (any_of HT_.out (by kernel_rfl)) (fun _ _ _ h => h) (Or.inr ⟨by rfl, rfl⟩) ?_ ?_
      rotate_left
      ·
       simp only [Act.put, List.setIfInBounds_toArray, List.set_cons_zero, List.set_cons_succ, i64_w, i32_w]
       rfl
      refine pure_ (i := 6) (N := some 88) (v := undef) (a' := ?_) #[true, true, true, true, true, true, true, false, false, false, false, false, false, false, false, false, false, false, false, false, false, false, false, false, false, false, false] rfl rfl (any_of HT_.out (by kernel_rfl)) (fun _ _ _ h => h) (Or.inr ⟨by rfl, rfl⟩) ?_ ?_
      rotate_left
      ·
       simp only [Act.put, List.setIfInBounds_toArray, List.set_cons_zero, List.set_cons_succ, i64_w, i32_w]
       rfl
      refine pure_ (i := 7) (N := some 89) (v := undef) (a' := ?_) #[true, true, true, true, true, true, true, true, false, false, false, false, false, false, false, false, false, false, false, false, false, false, false, false, false, false, false] rfl rfl (any_of HT_.out (by kernel_rfl)) (fun _ _ _ h => h) (Or.inr ⟨by rfl, rfl⟩) ?_ ?_
      rotate_left
      ·
       simp only [Act.put, List.setIfInBounds_toArray, List.set_cons_zero, List.set_cons_succ, i64_w, i32_w]
       rfl
      refine pure_ (i := 8) (N := some 90) (v := undef) (a' := ?_) #[true, true, true, true, true, true, true, true, true, false, false, false, false, false, false, false, false, false, false, false, false, false, false, false, false, false, false] rfl rfl (any_of HT_.out (by kernel_rfl)) (fun _ _ _ h => h) (Or.inr ⟨by rfl, rfl⟩) ?_ ?_
      rotate_left
      ·
       simp only [Act.put, List.setIfInBounds_toArray, List.set_cons_zero, List.set_cons_succ, i64_w, i32_w]
       rfl
      refine pure_ (i := 9) (N := some 91) (v := undef) (a' := ?_) #[true, true, true, true, true, true, true, true, true, true, false, false, false, false, false, false, false, false, false, false, false, false, false, false, false, false, false] rfl rfl (any_of HT_.out (by kernel_rfl)) (fun _ _ _ h => h) (Or.inr ⟨by rfl, rfl⟩) ?_ ?_
      rotate_left
      ·
       simp only [Act.put, List.setIfInBounds_toArray, List.set_cons_zero, List.set_cons_succ, i64_w, i32_w]
       rfl
      refine pure_ (i := 10) (N := some 92) (v := undef) (a' := ?_) #[true, true, true, true, true, true, true, true, true, true, true, false, false, false, false, false, false, false, false, false, false, false, false, false, false, false, false] rfl rfl (any_of HT_.out (by kernel_rfl)) (fun _ _ _ h => h) (Or.inr ⟨by rfl, rfl⟩) ?_ ?_
      rotate_left
      ·
       simp only [Act.put, List.setIfInBounds_toArray, List.set_cons_zero, List.set_cons_succ, i64_w, i32_w]
       rfl
      refine pure_ (i := 11) (N := some 93) (v := undef) (a' := ?_) #[true, true, true, true, true, true, true, true, true, true, true, true, false, false, false, false, false, false, false, false, false, false, false, false, false, false, false] rfl rfl (any_of HT_.out (by kernel_rfl)) (fun _ _ _ h => h) (Or.inr ⟨by rfl, rfl⟩) ?_ ?_
      rotate_left
      ·
       simp only [Act.put, List.setIfInBounds_toArray, List.set_cons_zero, List.set_cons_succ, i64_w, i32_w]
       rfl
      refine pure_ (i := 12) (N := some 94) (v := undef) (a' := ?_) #[true, true, true, true, true, true, true, true, true, true, true, true, true, false, false, false, false, false, false, false, false, false, false, false, false, false, false] rfl rfl (any_of HT_.out (by kernel_rfl)) (fun _ _ _ h => h) (Or.inr ⟨by rfl, rfl⟩) ?_ ?_
      rotate_left
      ·
       simp only [Act.put, List.setIfInBounds_toArray, List.set_cons_zero, List.set_cons_succ, i64_w, i32_w]
       rfl
      refine pure_ (i := 13) (N := some 95) (v := ?_) (a' := ?_) #[true, true, true, true, true, true, true, true, true, true, true, true, true, true, false, false, false, false, false, false, false, false, false, false, false, false, false] rfl rfl (any_of HT_.out (by kernel_rfl)) (fun _ _ _ h => h) (Or.inl ⟨by rfl, ?_⟩) ?_ ?_
      rotate_left; · (intro w'; go_simp; with_reducible rfl)
      rotate_left; · (simp only [Act.put, List.setIfInBounds_toArray, List.set_cons_zero, List.set_cons_succ, i64_w, i32_w]; rfl)
      refine pure_ (i := 14) (N := some 96) (v := ?_) (a' := ?_) #[true, true, true, true, true, true, true, true, true, true, true, true, true, true, true, false, false, false, false, false, false, false, false, false, false, false, false] rfl rfl (any_of HT_.out (by kernel_rfl)) (fun _ _ _ h => h) (Or.inl ⟨by rfl, ?_⟩) ?_ ?_
      rotate_left; · (intro w'; go_simp; with_reducible rfl)
      rotate_left; · (simp only [Act.put, List.setIfInBounds_toArray, List.set_cons_zero, List.set_cons_succ, i64_w, i32_w]; rfl)
      refine take_ (i := 15) (N := some 97) (v := ?_) (a' := ?_) #[true, true, true, true, true, true, true, true, true, true, true, true, true, true, true, true, false, false, false, false, false, false, false, false, false, false, false] rfl rfl (take_ofW HT_.out HW_.out (by kernel_rfl)) (fun _ _ _ h => h) (Or.inl ⟨by rfl, ?_⟩) hHeld ?_ ?_
      rotate_left
      ·
       rintro w' ⟨s0, s1, s2, s3, s4, s5⟩
       go_simp
       with_reducible rfl
      rotate_left
      ·
       simp only [Act.put, List.setIfInBounds_toArray, List.set_cons_zero, List.set_cons_succ, i64_w, i32_w]
       rfl
      refine take_ (i := 17) (N := some 99) (v := ?_) (a' := ?_) #[true, true, true, true, true, true, true, true, true, true, true, true, true, true, true, true, false, true, false, false, false, false, false, false, false, false, false] rfl rfl (take_ofW HT_.out HW_.out (by kernel_rfl)) (fun _ _ _ h => h) (Or.inl ⟨by rfl, ?_⟩) hHeld ?_ ?_
      rotate_left
      ·
       rintro w' ⟨s0, s1, s2, s3, s4, s5⟩
       go_simp
       with_reducible rfl
      rotate_left
      ·
       simp only [Act.put, List.setIfInBounds_toArray, List.set_cons_zero, List.set_cons_succ, i64_w, i32_w]
       rfl
      refine one_ (i := 16) (N := some 98) #[true, true, true, true, true, true, true, true, true, true, true, true, true, true, true, true, true, true, false, false, false, false, false, false, false, false, false] rfl rfl (one_of HT_.out (by kernel_rfl)) (by decide) (fun K hK => ?_)
      refine goes_ Try.func14 (by kernel_rfl) rfl #[.agg #[.bool a1_0, .int .i64 a1_1]] (by rfl) rfl rfl (mapq rfl) ?_
      with_reducible refine (avermentlaw09_To.calls a1_0 a1_1 t288 t289 _ A141.out).mono ?_
      rintro e w165 ⟨rfl, hb⟩
      refine ⟨_, rfl, ?_⟩
      replace BK232 := bb BK232 hb rfl; replace BK233 := bb BK233 hb rfl; replace BK241 := bb BK241 hb rfl; replace BK249 := bb BK249 hb rfl; replace BK257 := bb BK257 hb rfl; replace BK268 := bb BK268 hb rfl; replace BK275 := bb BK275 hb rfl; replace HB := hst HB hb rfl
      (try clear hb)
      refine hK.out _ _ ⟨bc BK232 0 rfl, bc BK232 1 rfl, bc BK275 0 rfl, bc BK275 1 rfl, bc BK233 0 rfl, bc BK233 1 rfl⟩ (fun hHeld => ?_)
      clear hK K
      refine norm_ (a' := ?_) ?_ ?_
      rotate_left; · (show Act.put _ (some 98) _ = _; simp only [Act.put, List.setIfInBounds_toArray, List.set_cons_zero, List.set_cons_succ, i64_w, i32_w]; rfl)
      refine one_ (i := 18) (N := some 100) #[true, true, true, true, true, true, true, true, true, true, true, true, true, true, true, true, true, true, true, false, false, false, false, false, false, false, false] rfl rfl (one_of HT_.out (by kernel_rfl)) (by decide) (fun K hK => ?_)
      refine goes_ Try.func25 (by kernel_rfl) rfl #[.agg #[.bool t288, .int .i64 t289], .agg #[.bool t273, .int .i64 t274]] (by rfl) rfl rfl (mapq rfl) ?_
      with_reducible refine (known_Within.calls t288 t289 t273 t274 true _ A142.out).mono ?_
      rintro e w166 ⟨rfl, hb⟩
      refine ⟨_, rfl, ?_⟩
      replace BK232 := bb BK232 hb rfl; replace BK233 := bb BK233 hb rfl; replace BK241 := bb BK241 hb rfl; replace BK249 := bb BK249 hb rfl; replace BK257 := bb BK257 hb rfl; replace BK268 := bb BK268 hb rfl; replace BK275 := bb BK275 hb rfl; replace HB := hst HB hb rfl
      (try clear hb)
      refine hK.out _ _ ⟨bc BK232 0 rfl, bc BK232 1 rfl, bc BK275 0 rfl, bc BK275 1 rfl, bc BK233 0 rfl, bc BK233 1 rfl⟩ (fun hHeld => ?_)
      clear hK K
      refine norm_ (a' := ?_) ?_ ?_
      rotate_left; · (show Act.put _ (some 100) _ = _; simp only [Act.put, List.setIfInBounds_toArray, List.set_cons_zero, List.set_cons_succ, i64_w, i32_w]; rfl)
      refine pure_ (i := 19) (N := some 101) (v := ?_) (a' := ?_) #[true, true, true, true, true, true, true, true, true, true, true, true, true, true, true, true, true, true, true, true, false, false, false, false, false, false, false] rfl rfl (any_of HT_.out (by kernel_rfl)) (fun _ _ _ h => h) (Or.inl ⟨by rfl, ?_⟩) ?_ ?_
      rotate_left; · (intro w'; go_simp; with_reducible rfl)
      rotate_left; · (simp only [Act.put, List.setIfInBounds_toArray, List.set_cons_zero, List.set_cons_succ, i64_w, i32_w]; rfl)
      refine pure_ (i := 20) (N := some 102) (v := ?_) (a' := ?_) #[true, true, true, true, true, true, true, true, true, true, true, true, true, true, true, true, true, true, true, true, true, false, false, false, false, false, false] rfl rfl (any_of HT_.out (by kernel_rfl)) (fun _ _ _ h => h) (Or.inl ⟨by rfl, ?_⟩) ?_ ?_
      rotate_left; · (intro w'; go_simp; with_reducible rfl)
      rotate_left; · (simp only [Act.put, List.setIfInBounds_toArray, List.set_cons_zero, List.set_cons_succ, i64_w, i32_w]; rfl)
      refine take_ (i := 21) (N := some 103) (v := ?_) (a' := ?_) #[true, true, true, true, true, true, true, true, true, true, true, true, true, true, true, true, true, true, true, true, true, true, false, false, false, false, false] rfl rfl (take_ofW HT_.out HW_.out (by kernel_rfl)) (fun _ _ _ h => h) (Or.inl ⟨by rfl, ?_⟩) hHeld ?_ ?_
      rotate_left
      ·
       rintro w' ⟨s0, s1, s2, s3, s4, s5⟩
       go_simp
       with_reducible rfl
      rotate_left
      ·
       simp only [Act.put, List.setIfInBounds_toArray, List.set_cons_zero, List.set_cons_succ, i64_w, i32_w]
       rfl
      refine take_ (i := 23) (N := some 105) (v := ?_) (a' := ?_) #[true, true, true, true, true, true, true, true, true, true, true, true, true, true, true, true, true, true, true, true, true, true, false, true, false, false, false] rfl rfl (take_ofW HT_.out HW_.out (by kernel_rfl)) (fun _ _ _ h => h) (Or.inl ⟨by rfl, ?_⟩) hHeld ?_ ?_
      rotate_left
      ·
       rintro w' ⟨s0, s1, s2, s3, s4, s5⟩
       go_simp
       with_reducible rfl
      rotate_left
      ·
       simp only [Act.put, List.setIfInBounds_toArray, List.set_cons_zero, List.set_cons_succ, i64_w, i32_w]
       rfl
      refine one_ (i := 22) (N := some 104) #[true, true, true, true, true, true, true, true, true, true, true, true, true, true, true, true, true, true, true, true, true, true, true, true, false, false, false] rfl rfl (one_of HT_.out (by kernel_rfl)) (by decide) (fun K hK => ?_)
      refine goes_ Try.func14 (by kernel_rfl) rfl #[.agg #[.bool a2_0, .int .i64 a2_1]] (by rfl) rfl rfl (mapq rfl) ?_
      with_reducible refine (avermentlaw09_To.calls a2_0 a2_1 t291 t292 _ A144.out).mono ?_
      rintro e w167 ⟨rfl, hb⟩
      refine ⟨_, rfl, ?_⟩
      replace BK232 := bb BK232 hb rfl; replace BK233 := bb BK233 hb rfl; replace BK241 := bb BK241 hb rfl; replace BK249 := bb BK249 hb rfl; replace BK257 := bb BK257 hb rfl; replace BK268 := bb BK268 hb rfl; replace BK275 := bb BK275 hb rfl; replace HB := hst HB hb rfl
      (try clear hb)
      refine hK.out _ _ ⟨bc BK232 0 rfl, bc BK232 1 rfl, bc BK275 0 rfl, bc BK275 1 rfl, bc BK233 0 rfl, bc BK233 1 rfl⟩ (fun hHeld => ?_)
      clear hK K
      refine norm_ (a' := ?_) ?_ ?_
      rotate_left; · (show Act.put _ (some 104) _ = _; simp only [Act.put, List.setIfInBounds_toArray, List.set_cons_zero, List.set_cons_succ, i64_w, i32_w]; rfl)
      refine one_ (i := 24) (N := some 106) #[true, true, true, true, true, true, true, true, true, true, true, true, true, true, true, true, true, true, true, true, true, true, true, true, true, false, false] rfl rfl (one_of HT_.out (by kernel_rfl)) (by decide) (fun K hK => ?_)
      refine goes_ Try.func25 (by kernel_rfl) rfl #[.agg #[.bool t291, .int .i64 t292], .agg #[.bool t273, .int .i64 t274]] (by rfl) rfl rfl (mapq rfl) ?_
      with_reducible refine (known_Within.calls t291 t292 t273 t274 t293 _ A145.out).mono ?_
      rintro e w168 ⟨rfl, hb⟩
      refine ⟨_, rfl, ?_⟩
      replace BK232 := bb BK232 hb rfl; replace BK233 := bb BK233 hb rfl; replace BK241 := bb BK241 hb rfl; replace BK249 := bb BK249 hb rfl; replace BK257 := bb BK257 hb rfl; replace BK268 := bb BK268 hb rfl; replace BK275 := bb BK275 hb rfl; replace HB := hst HB hb rfl
      (try clear hb)
      refine hK.out _ _ ⟨bc BK232 0 rfl, bc BK232 1 rfl, bc BK275 0 rfl, bc BK275 1 rfl, bc BK233 0 rfl, bc BK233 1 rfl⟩ (fun hHeld => ?_)
      clear hK K
      refine norm_ (a' := ?_) ?_ ?_
      rotate_left; · (show Act.put _ (some 106) _ = _; simp only [Act.put, List.setIfInBounds_toArray, List.set_cons_zero, List.set_cons_succ, i64_w, i32_w]; rfl)
      refine pure_ (i := 25) (N := some 107) (v := ?_) (a' := ?_) #[true, true, true, true, true, true, true, true, true, true, true, true, true, true, true, true, true, true, true, true, true, true, true, true, true, true, false] rfl rfl (any_of HT_.out (by kernel_rfl)) (fun _ _ _ h => h) (Or.inl ⟨by rfl, ?_⟩) ?_ ?_
      rotate_left; · (intro w'; go_simp; with_reducible rfl)
      rotate_left; · (simp only [Act.put, List.setIfInBounds_toArray, List.set_cons_zero, List.set_cons_succ, i64_w, i32_w]; rfl)
      refine pure_ (i := 26) (N := some 6) (v := ?_) (a' := ?_) #[true, true, true, true, true, true, true, true, true, true, true, true, true, true, true, true, true, true, true, true, true, true, true, true, true, true, true] rfl rfl (any_of HT_.out (by kernel_rfl)) (fun _ _ _ h => h) (Or.inl ⟨by rfl, ?_⟩) ?_ ?_
      rotate_left; · (intro w'; go_simp; with_reducible rfl)
      rotate_left; · (simp only [Act.put, List.setIfInBounds_toArray, List.set_cons_zero, List.set_cons_succ, i64_w, i32_w]; rfl)
      refine done_ (done_of HT_.out (by kernel_rfl)) ?_
      try go_wp2
      go_ret
      exact ⟨by first | rfl | (simp [errW_none, errW_some] <;> rfl) | (simp [*, errW_none, errW_some] <;> rfl), by repeat (first | (with_reducible first | exact HB.out | apply below_alloc | apply pw_below_drewN | apply below_drew1 | refine below_set ?_ GE232.out | refine below_set ?_ GE233.out | refine below_set ?_ GE241.out | refine below_set ?_ GE249.out | refine below_set ?_ GE257.out | refine below_set ?_ GE268.out | refine below_set ?_ GE275.out) | exact HB.out)⟩
     ·
      replace c143 := Bool.eq_false_iff.mpr c143
      subst c143
      rw [if_neg (show ¬ (false = true) by decide)] at H
      exact absurd ((Option.some.inj H).trans hr_.out) (by decide)

end Go.Proofs.Ytpacmhhaabhdjaa.KN
