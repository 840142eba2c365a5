-- Written by a program of this session: plain functions and their walks. Lean checks it.
import Derived.Test.YtpacmhhaabhdjaaKN0
import Derived.Test.YtpacmhhaabhdjaaKN3
import Derived.Test.YtpacmhhaabhdjaaKN4
import Derived.Test.YtpacmhhaabhdjaaKN5
import Derived.Test.YtpacmhhaabhdjaaKN8
import Derived.Test.YtpacmhhaabhdjaaKN9
import Derived.Test.YtpacmhhaabhdjaaKN11
namespace Go.Proofs.Ytpacmhhaabhdjaa.KN
open Go.RowKit Go.Proofs.YtpacmhhaabhdjaaW.PrintWords Go.Proofs.YtpacmhhaabhdjaaW.PrintLast Go.Proofs.YtpacmhhaabhdjaaW.PrintMore
attribute [local go_sem] max2_int min2_int max_two min_two max_three min_three max_four min_four   -- for this text's walks alone
set_option linter.unusedVariables false
set_option linter.unusedSimpArgs false

/-! ### avermentlaw09_KnownSound: function 6 -/
def avermentlaw09_KnownSound.j0 : Nat → Int → Bool → Bool → Int → Option (Bool)
 | 0, _, _, _, _ => none
 | k + 1, x7, x59, x376000, x376001 => if x59 = true then (some false) else ((known_One.f 3 x376000 x376001).bind fun bt385 => ((known_One.f 2 x376000 x376001).bind fun bt388 => ((known_Branch.f k x376000 x376001 (x7 != 0)).bind fun bt392 => (if bt385.2.2 = true then ((known_Has.f bt385.1 bt385.2.1 (wrap64 (-x7))).bind fun t396 => (if t396 = true then (if bt388.2.2 = true then ((known_Has.f bt388.1 bt388.2.1 x7).bind fun t397 => (if t397 = true then (if bt392.2.2 = true then ((known_Has.f bt392.1 bt392.2.1 x7).bind fun t398 => (some t398)) else (some false)) else (some false))) else (some false)) else (some false))) else (some false)))))
def avermentlaw09_KnownSound.f (k : Nat) (a0 : Int) (a1_0 : Int) (a1_1 : Int) (a2_0 : Bool) (a2_1 : Bool) : Option (Bool) := (avermentlaw09_with.f a1_0 a2_0).bind fun bt371 => ((avermentlaw09_with.f a1_1 a2_1).bind fun bt373 => ((avermentref07_Arith.f a0 a1_0 a1_1).bind fun bt377 => ((known_Two.f k a0 bt371.1 bt371.2 bt373.1 bt373.2).bind fun bt379 => ((avermentlaw09_told.f k).bind fun t383 => (if t383 = true then (if bt377.2 = true then (if bt379.2.2 = true then ((known_Has.f bt379.1 bt379.2.1 bt377.1).bind fun t384 => (avermentlaw09_KnownSound.j0 k a1_0 (!t384) bt371.1 bt371.2)) else (avermentlaw09_KnownSound.j0 k a1_0 true bt371.1 bt371.2)) else (avermentlaw09_KnownSound.j0 k a1_0 false bt371.1 bt371.2)) else (avermentlaw09_KnownSound.j0 k a1_0 true bt371.1 bt371.2))))))
theorem avermentlaw09_KnownSound.mono_l : ∀ k, (∀ y0 y1 y2 y3, LeO (avermentlaw09_KnownSound.j0 k y0 y1 y2 y3) (avermentlaw09_KnownSound.j0 (k + 1) y0 y1 y2 y3))
 | 0 => fun _ _ _ _ r h => by simp [avermentlaw09_KnownSound.j0] at h
 | k + 1 => by
  have ih0 := avermentlaw09_KnownSound.mono_l k
  ·
   intro y0 y1 y2 y3
   unfold avermentlaw09_KnownSound.j0
   repeat' first
   | (with_reducible exact ih0 _ _ _ _)
   | (with_reducible exact avermentlaw09_told.mono _)
   | (with_reducible exact known_Branch.mono _ _ _ _)
   | (with_reducible exact known_Two.mono _ _ _ _ _ _)
   | (with_reducible exact LeO.refl _)
   | (with_reducible exact LeO.none _)
   | (with_reducible refine LeO.ite ?_ ?_)
   | (with_reducible refine LeO.bind ?_ (fun _ => ?_))
   | exact ih0 _ _ _ _
   | exact avermentlaw09_told.mono _
   | exact known_Branch.mono _ _ _ _
   | exact known_Two.mono _ _ _ _ _ _
   | exact LeO.none _
   | refine LeO.ite ?_ ?_
   | refine LeO.bind ?_ (fun _ => ?_)
theorem avermentlaw09_KnownSound.mono : ∀ a0 a1 a2 a3 a4 k, LeO (avermentlaw09_KnownSound.f k a0 a1 a2 a3 a4) (avermentlaw09_KnownSound.f (k + 1) a0 a1 a2 a3 a4) := by
 intro a0 a1 a2 a3 a4 k
 have ih0 := avermentlaw09_KnownSound.mono_l k
 unfold avermentlaw09_KnownSound.f
 repeat' first
   | (with_reducible exact ih0 _ _ _ _)
   | (with_reducible exact avermentlaw09_told.mono _)
   | (with_reducible exact known_Branch.mono _ _ _ _)
   | (with_reducible exact known_Two.mono _ _ _ _ _ _)
   | (with_reducible exact LeO.refl _)
   | (with_reducible exact LeO.none _)
   | (with_reducible refine LeO.ite ?_ ?_)
   | (with_reducible refine LeO.bind ?_ (fun _ => ?_))
   | exact ih0 _ _ _ _
   | exact avermentlaw09_told.mono _
   | exact known_Branch.mono _ _ _ _
   | exact known_Two.mono _ _ _ _ _ _
   | exact LeO.none _
   | refine LeO.ite ?_ ?_
   | refine LeO.bind ?_ (fun _ => ?_)
def avermentlaw09_KnownSound.T2 : Bool × List (List Nat × List Nat) := (true, [([], []), ([], []), ([1], [1]), ([0, 2], [0, 2]), ([], []), ([], []), ([5], [5]), ([4, 6, 3], [4, 6]), ([], []), ([], []), ([8, 3, 7, 0, 1, 2, 3, 8, 9], [3, 8]), ([9, 7, 10, 0, 1, 2, 3, 4, 5, 6, 7, 8, 9, 10], [7, 9])])
def avermentlaw09_KnownSound.B2 : List Nat := [0, 0, 2, 7, 0, 0, 32, 127, 0, 0, 1023, 2047]
theorem avermentlaw09_KnownSound.tab2 : rtab .any (opsOf Try.f6 2) = avermentlaw09_KnownSound.T2 := by kernel_rfl
theorem avermentlaw09_KnownSound.bits2 : waitsOk avermentlaw09_KnownSound.T2.2 avermentlaw09_KnownSound.B2 = true := by kernel_rfl
set_option maxHeartbeats 8000000 in
set_option maxRecDepth 100000 in
theorem avermentlaw09_KnownSound.calls (k : Nat) (a0 : Int) (a1_0 : Int) (a1_1 : Int) (a2_0 : Bool) (a2_1 : Bool) (r : Bool) (w : World) (hr_ : Aside0 (r = true)) (h : avermentlaw09_KnownSound.f k a0 a1_0 a1_1 a2_0 a2_1 = some r) :
  Calls Try.prog 6 #[.int .i64 a0, .agg #[.int .i64 a1_0, .int .i64 a1_1], .agg #[.bool a2_0, .bool a2_1]] w fun e w' => e = .returned (.bool r) ∧ Below w.heap.size w w' := by
 have hu49 := Try.underlying49
 have hu50 := Try.underlying50
 have hu24 := Try.underlying24
 have HB := Aside0.mk (Below.refl w.heap.size w)
 have H : ((avermentlaw09_with.f a1_0 a2_0).bind fun bt371 => ((avermentlaw09_with.f a1_1 a2_1).bind fun bt373 => ((avermentref07_Arith.f a0 a1_0 a1_1).bind fun bt377 => ((known_Two.f k a0 bt371.1 bt371.2 bt373.1 bt373.2).bind fun bt379 => ((avermentlaw09_told.f k).bind fun t383 => (if t383 = true then (if bt377.2 = true then (if bt379.2.2 = true then ((known_Has.f bt379.1 bt379.2.1 bt377.1).bind fun t384 => (avermentlaw09_KnownSound.j0 k a1_0 (!t384) bt371.1 bt371.2)) else (avermentlaw09_KnownSound.j0 k a1_0 true bt371.1 bt371.2)) else (avermentlaw09_KnownSound.j0 k a1_0 false bt371.1 bt371.2)) else (avermentlaw09_KnownSound.j0 k a1_0 true bt371.1 bt371.2))))))) = some r := h
 clear h
 replace H := Option.bind_eq_some_iff.mp H
 obtain ⟨⟨t371, t372⟩, A40, H⟩ := H
 (try dsimp only at H)
 have A4 := Aside0.mk A40
 clear A40
 replace H := Option.bind_eq_some_iff.mp H
 obtain ⟨⟨t373, t374⟩, A50, H⟩ := H
 (try dsimp only at H)
 have A5 := Aside0.mk A50
 clear A50
 replace H := Option.bind_eq_some_iff.mp H
 obtain ⟨⟨t377, t378⟩, A60, H⟩ := H
 (try dsimp only at H)
 have A6 := Aside0.mk A60
 clear A60
 replace H := Option.bind_eq_some_iff.mp H
 obtain ⟨⟨t379, t380, t381⟩, A70, H⟩ := H
 (try dsimp only at H)
 have A7 := Aside0.mk A70
 clear A70
 have HC8 := Aside0.mk H
 clear H
 go_enter Try.func6, Try.ntmps6
 try go_wp2_with (first | ((with_reducible refine gate_dst (N := 4) rfl ?_); refine box_event ?hg (N := 4) ?hd (cs := #[.int .i64 a1_0, .int .i64 a1_1]) (t := 49) ?hr ?_; (case hd => rfl); (case hg => rfl); (case hr => first | (go_simp; done) | (go_simp; rfl)); intro gb369 hg w9 hbox hb; have BK369 := Aside0.mk (hbox); have GW369 := geb hg HB rfl; have GE369 := geb hg HB rfl; replace HB := hst HB hb rfl; clear hb hbox hg) | ((with_reducible refine gate_dst (N := 5) rfl ?_); refine box_event ?hg (N := 5) ?hd (cs := #[.bool a2_0, .bool a2_1]) (t := 50) ?hr ?_; (case hd => rfl); (case hg => rfl); (case hr => first | (go_simp; done) | (go_simp; rfl)); intro gb370 hg w10 hbox hb; have BK370 := Aside0.mk (hbox); have GW370 := geb hg HB rfl; have GE370 := geb hg HB rfl; have NB369_370 := nbl hg BK369 rfl; have NB370_369 := nbr hg BK369 rfl; replace BK369 := bb BK369 hb rfl; replace HB := hst HB hb rfl; clear hb hbox hg))
 replace BK369 := Aside0.mk (blk_drew BK369.out); replace BK370 := Aside0.mk (blk_drew BK370.out); replace HB := Aside0.mk (below_drew1 HB.out)
 refine start_ (n := 6) (S := fun w' => w'.cell? ⟨gb369, 0, none⟩ = some (.int .i64 a1_0) ∧ w'.cell? ⟨gb369, 1, none⟩ = some (.int .i64 a1_1)) (ds := []) #[false, false, false, false, false, false] (by kernel_rfl) rfl rfl ⟨bc BK369 0 rfl, bc BK369 1 rfl⟩ (fun hHeld => ?_)
 generalize w10.drew = w11 at BK369 BK370 HB hHeld ⊢
 refine pure_ (i := 0) (N := some 19) (v := ?_) (a' := ?_) #[true, false, false, false, false, false] rfl rfl (by kernel_rfl) (fun _ _ _ h => h) (Or.inl ⟨by rfl, ?_⟩) ?_ ?_
 rotate_left; · (intro w'; go_simp; with_reducible rfl)
 rotate_left; · (simp only [Act.put, List.setIfInBounds_toArray, List.set_cons_zero, List.set_cons_succ, i64_w, i32_w]; rfl)
 refine pure_ (i := 2) (N := some 21) (v := ?_) (a' := ?_) #[true, false, true, false, false, false] rfl rfl (by kernel_rfl) (fun _ _ _ h => h) (Or.inl ⟨by rfl, ?_⟩) ?_ ?_
 rotate_left; · (intro w'; go_simp; with_reducible rfl)
 rotate_left; · (simp only [Act.put, List.setIfInBounds_toArray, List.set_cons_zero, List.set_cons_succ, i64_w, i32_w]; rfl)
 refine take_ (i := 1) (N := some 20) (v := ?_) (a' := ?_) #[true, true, true, false, false, false] rfl rfl (by kernel_rfl) (fun _ _ _ h => h) (Or.inl ⟨by rfl, ?_⟩) hHeld ?_ ?_
 rotate_left
 ·
  rintro w' ⟨s0, s1⟩
  go_simp
  with_reducible rfl
 rotate_left
 ·
  simp only [Act.put, List.setIfInBounds_toArray, List.set_cons_zero, List.set_cons_succ, i64_w, i32_w]
  rfl
 refine pure_ (i := 4) (N := some 7) (v := ?_) (a' := ?_) #[true, true, true, false, true, false] rfl rfl (by kernel_rfl) (fun _ _ _ h => h) (Or.inl ⟨by rfl, ?_⟩) ?_ ?_
 rotate_left; · (intro w'; go_simp; with_reducible rfl)
 rotate_left; · (simp only [Act.put, List.setIfInBounds_toArray, List.set_cons_zero, List.set_cons_succ, i64_w, i32_w]; rfl)
 refine take_ (i := 3) (N := some 22) (v := ?_) (a' := ?_) #[true, true, true, true, true, false] rfl rfl (by kernel_rfl) (fun _ _ _ h => h) (Or.inl ⟨by rfl, ?_⟩) hHeld ?_ ?_
 rotate_left
 ·
  rintro w' ⟨s0, s1⟩
  go_simp
  with_reducible rfl
 rotate_left
 ·
  simp only [Act.put, List.setIfInBounds_toArray, List.set_cons_zero, List.set_cons_succ, i64_w, i32_w]
  rfl
 refine pure_ (i := 5) (N := some 8) (v := ?_) (a' := ?_) #[true, true, true, true, true, true] rfl rfl (by kernel_rfl) (fun _ _ _ h => h) (Or.inl ⟨by rfl, ?_⟩) ?_ ?_
 rotate_left; · (intro w'; go_simp; with_reducible rfl)
 rotate_left; · (simp only [Act.put, List.setIfInBounds_toArray, List.set_cons_zero, List.set_cons_succ, i64_w, i32_w]; rfl)
 refine done_ (by kernel_rfl) ?_
 try go_wp2
 replace BK369 := Aside0.mk (blk_drew BK369.out); replace BK370 := Aside0.mk (blk_drew BK370.out); replace HB := Aside0.mk (below_drew1 HB.out)
 refine start_ (n := 12) (S := fun w' => w'.cell? ⟨gb370, 0, none⟩ = some (.bool a2_0) ∧ w'.cell? ⟨gb370, 1, none⟩ = some (.bool a2_1)) (ds := []) #[false, false, false, false, false, false, false, false, false, false, false, false] (by kernel_rfl) rfl rfl ⟨bc BK370 0 rfl, bc BK370 1 rfl⟩ (fun hHeld => ?_); refine with_tabW avermentlaw09_KnownSound.tab2 avermentlaw09_KnownSound.bits2 (fun HT_ HW_ => ?_)
 generalize w11.drew = w12 at BK369 BK370 HB hHeld ⊢
 refine pure_ (i := 0) (N := some 23) (v := ?_) (a' := ?_) #[true, false, false, false, false, false, false, false, false, false, false, false] rfl rfl (any_of HT_.out (by kernel_rfl)) (fun _ _ _ h => h) (Or.inl ⟨by rfl, ?_⟩) ?_ ?_
 rotate_left; · (intro w'; go_simp; with_reducible rfl)
 rotate_left; · (simp only [Act.put, List.setIfInBounds_toArray, List.set_cons_zero, List.set_cons_succ, i64_w, i32_w]; rfl)
 refine pure_ (i := 1) (N := some 24) (v := ?_) (a' := ?_) #[true, true, false, false, false, false, false, false, false, false, false, false] rfl rfl (any_of HT_.out (by kernel_rfl)) (fun _ _ _ h => h) (Or.inl ⟨by rfl, ?_⟩) ?_ ?_
 rotate_left; · (intro w'; go_simp; with_reducible rfl)
 rotate_left; · (simp only [Act.put, List.setIfInBounds_toArray, List.set_cons_zero, List.set_cons_succ, i64_w, i32_w]; rfl)
 refine pure_ (i := 4) (N := some 27) (v := ?_) (a' := ?_) #[true, true, false, false, true, false, false, false, false, false, false, false] rfl rfl (any_of HT_.out (by kernel_rfl)) (fun _ _ _ h => h) (Or.inl ⟨by rfl, ?_⟩) ?_ ?_
 rotate_left; · (intro w'; go_simp; with_reducible rfl)
 rotate_left; · (simp only [Act.put, List.setIfInBounds_toArray, List.set_cons_zero, List.set_cons_succ, i64_w, i32_w]; rfl)
 refine pure_ (i := 5) (N := some 28) (v := ?_) (a' := ?_) #[true, true, false, false, true, true, false, false, false, false, false, false] rfl rfl (any_of HT_.out (by kernel_rfl)) (fun _ _ _ h => h) (Or.inl ⟨by rfl, ?_⟩) ?_ ?_
 rotate_left; · (intro w'; go_simp; with_reducible rfl)
 rotate_left; · (simp only [Act.put, List.setIfInBounds_toArray, List.set_cons_zero, List.set_cons_succ, i64_w, i32_w]; rfl)
 refine take_ (i := 2) (N := some 25) (v := ?_) (a' := ?_) #[true, true, true, false, true, true, false, false, false, false, false, false] rfl rfl (take_ofW HT_.out HW_.out (by kernel_rfl)) (fun _ _ _ h => h) (Or.inl ⟨by rfl, ?_⟩) hHeld ?_ ?_
 rotate_left
 ·
  rintro w' ⟨s0, s1⟩
  go_simp
  with_reducible rfl
 rotate_left
 ·
  simp only [Act.put, List.setIfInBounds_toArray, List.set_cons_zero, List.set_cons_succ, i64_w, i32_w]
  rfl
 refine take_ (i := 6) (N := some 29) (v := ?_) (a' := ?_) #[true, true, true, false, true, true, true, false, false, false, false, false] rfl rfl (take_ofW HT_.out HW_.out (by kernel_rfl)) (fun _ _ _ h => h) (Or.inl ⟨by rfl, ?_⟩) hHeld ?_ ?_
 rotate_left
 ·
  rintro w' ⟨s0, s1⟩
  go_simp
  with_reducible rfl
 rotate_left
 ·
  simp only [Act.put, List.setIfInBounds_toArray, List.set_cons_zero, List.set_cons_succ, i64_w, i32_w]
  rfl
 refine join_ (σ := Nat × Nat) 2 #[true, true, true, true, true, true, true, true, true, true, false, false] (fun s_ => [(26, .agg #[.bool t371, .int .i64 t372]), (30, .agg #[.bool t373, .int .i64 t374]), (9, .pointer (some ⟨s_.1, 0, none⟩)), (10, .pointer (some ⟨s_.2, 0, none⟩))]) (fun s_ w' => (w'.cell? ⟨gb370, 0, none⟩ = some (.bool a2_0) ∧ w'.cell? ⟨gb370, 1, none⟩ = some (.bool a2_1)) ∧ (w'.heap[gb369]? = some (.cells #[.int .i64 a1_0, .int .i64 a1_1] 49 (0, 0))) ∧ (w'.heap[gb370]? = some (.cells #[.bool a2_0, .bool a2_1] 50 (0, 0))) ∧ (w'.heap[s_.1]? = some (.cells #[.bool false, .int .i64 0] 24 (0, 0))) ∧ (w'.heap[s_.2]? = some (.cells #[.bool false, .int .i64 0] 24 (0, 0))) ∧ (w.heap.size ≤ s_.1) ∧ (w.heap.size ≤ s_.1) ∧ (gb369 ≠ s_.1) ∧ (s_.1 ≠ gb369) ∧ (gb370 ≠ s_.1) ∧ (s_.1 ≠ gb370) ∧ (s_.2 ≠ s_.1) ∧ (s_.1 ≠ s_.2) ∧ (w.heap.size ≤ s_.2) ∧ (w.heap.size ≤ s_.2) ∧ (gb369 ≠ s_.2) ∧ (s_.2 ≠ gb369) ∧ (gb370 ≠ s_.2) ∧ (s_.2 ≠ gb370) ∧ (Below w.heap.size w w')) ?_ ?_
 rotate_left
 ·
  intro hJ3_7_8_9
  refine join_ (σ := Nat) 3 #[true, true, true, true, true, true, true, true, true, false, false, false] (fun s_ => [(26, .agg #[.bool t371, .int .i64 t372]), (30, .agg #[.bool t373, .int .i64 t374]), (9, .pointer (some ⟨s_, 0, none⟩))]) (fun s_ w' => (w'.cell? ⟨gb370, 0, none⟩ = some (.bool a2_0) ∧ w'.cell? ⟨gb370, 1, none⟩ = some (.bool a2_1)) ∧ (w'.heap[gb369]? = some (.cells #[.int .i64 a1_0, .int .i64 a1_1] 49 (0, 0))) ∧ (w'.heap[gb370]? = some (.cells #[.bool a2_0, .bool a2_1] 50 (0, 0))) ∧ (w'.heap[s_]? = some (.cells #[.bool false, .int .i64 0] 24 (0, 0))) ∧ (w.heap.size ≤ s_) ∧ (w.heap.size ≤ s_) ∧ (gb369 ≠ s_) ∧ (s_ ≠ gb369) ∧ (gb370 ≠ s_) ∧ (s_ ≠ gb370) ∧ (Below w.heap.size w w')) ?_ ?_
  rotate_left
  ·
   intro hJ3_7_8
   refine join_ (σ := Nat) 3 #[true, true, true, true, true, true, true, true, false, true, false, false] (fun s_ => [(26, .agg #[.bool t371, .int .i64 t372]), (30, .agg #[.bool t373, .int .i64 t374]), (10, .pointer (some ⟨s_, 0, none⟩))]) (fun s_ w' => (w'.cell? ⟨gb370, 0, none⟩ = some (.bool a2_0) ∧ w'.cell? ⟨gb370, 1, none⟩ = some (.bool a2_1)) ∧ (w'.heap[gb369]? = some (.cells #[.int .i64 a1_0, .int .i64 a1_1] 49 (0, 0))) ∧ (w'.heap[gb370]? = some (.cells #[.bool a2_0, .bool a2_1] 50 (0, 0))) ∧ (w'.heap[s_]? = some (.cells #[.bool false, .int .i64 0] 24 (0, 0))) ∧ (w.heap.size ≤ s_) ∧ (w.heap.size ≤ s_) ∧ (gb369 ≠ s_) ∧ (s_ ≠ gb369) ∧ (gb370 ≠ s_) ∧ (s_ ≠ gb370) ∧ (Below w.heap.size w w')) ?_ ?_
   rotate_left
   ·
    intro hJ3_7_9
    refine join_ (σ := Nat × Nat) 3 #[true, true, true, true, true, true, true, false, true, true, false, false] (fun s_ => [(26, .agg #[.bool t371, .int .i64 t372]), (9, .pointer (some ⟨s_.1, 0, none⟩)), (10, .pointer (some ⟨s_.2, 0, none⟩))]) (fun s_ w' => (w'.cell? ⟨gb370, 0, none⟩ = some (.bool a2_0) ∧ w'.cell? ⟨gb370, 1, none⟩ = some (.bool a2_1)) ∧ (w'.heap[gb369]? = some (.cells #[.int .i64 a1_0, .int .i64 a1_1] 49 (0, 0))) ∧ (w'.heap[gb370]? = some (.cells #[.bool a2_0, .bool a2_1] 50 (0, 0))) ∧ (w'.heap[s_.1]? = some (.cells #[.bool false, .int .i64 0] 24 (0, 0))) ∧ (w'.heap[s_.2]? = some (.cells #[.bool false, .int .i64 0] 24 (0, 0))) ∧ (w.heap.size ≤ s_.1) ∧ (w.heap.size ≤ s_.1) ∧ (gb369 ≠ s_.1) ∧ (s_.1 ≠ gb369) ∧ (gb370 ≠ s_.1) ∧ (s_.1 ≠ gb370) ∧ (s_.2 ≠ s_.1) ∧ (s_.1 ≠ s_.2) ∧ (w.heap.size ≤ s_.2) ∧ (w.heap.size ≤ s_.2) ∧ (gb369 ≠ s_.2) ∧ (s_.2 ≠ gb369) ∧ (gb370 ≠ s_.2) ∧ (s_.2 ≠ gb370) ∧ (Below w.heap.size w w')) ?_ ?_
    rotate_left
    ·
     intro hJ3_8_9
     refine join_ (σ := Unit) 4 #[true, true, true, true, true, true, true, true, false, false, false, false] (fun s_ => [(26, .agg #[.bool t371, .int .i64 t372]), (30, .agg #[.bool t373, .int .i64 t374])]) (fun s_ w' => (w'.cell? ⟨gb370, 0, none⟩ = some (.bool a2_0) ∧ w'.cell? ⟨gb370, 1, none⟩ = some (.bool a2_1)) ∧ (w'.heap[gb369]? = some (.cells #[.int .i64 a1_0, .int .i64 a1_1] 49 (0, 0))) ∧ (w'.heap[gb370]? = some (.cells #[.bool a2_0, .bool a2_1] 50 (0, 0))) ∧ (Below w.heap.size w w')) ?_ ?_
     rotate_left
     ·
      intro hJ3_7
      refine join_ (σ := Nat) 4 #[true, true, true, true, true, true, true, false, true, false, false, false] (fun s_ => [(26, .agg #[.bool t371, .int .i64 t372]), (9, .pointer (some ⟨s_, 0, none⟩))]) (fun s_ w' => (w'.cell? ⟨gb370, 0, none⟩ = some (.bool a2_0) ∧ w'.cell? ⟨gb370, 1, none⟩ = some (.bool a2_1)) ∧ (w'.heap[gb369]? = some (.cells #[.int .i64 a1_0, .int .i64 a1_1] 49 (0, 0))) ∧ (w'.heap[gb370]? = some (.cells #[.bool a2_0, .bool a2_1] 50 (0, 0))) ∧ (w'.heap[s_]? = some (.cells #[.bool false, .int .i64 0] 24 (0, 0))) ∧ (w.heap.size ≤ s_) ∧ (w.heap.size ≤ s_) ∧ (gb369 ≠ s_) ∧ (s_ ≠ gb369) ∧ (gb370 ≠ s_) ∧ (s_ ≠ gb370) ∧ (Below w.heap.size w w')) ?_ ?_
      rotate_left
      ·
       intro hJ3_8
       refine join_ (σ := Nat) 4 #[true, true, true, true, true, true, true, false, false, true, false, false] (fun s_ => [(26, .agg #[.bool t371, .int .i64 t372]), (10, .pointer (some ⟨s_, 0, none⟩))]) (fun s_ w' => (w'.cell? ⟨gb370, 0, none⟩ = some (.bool a2_0) ∧ w'.cell? ⟨gb370, 1, none⟩ = some (.bool a2_1)) ∧ (w'.heap[gb369]? = some (.cells #[.int .i64 a1_0, .int .i64 a1_1] 49 (0, 0))) ∧ (w'.heap[gb370]? = some (.cells #[.bool a2_0, .bool a2_1] 50 (0, 0))) ∧ (w'.heap[s_]? = some (.cells #[.bool false, .int .i64 0] 24 (0, 0))) ∧ (w.heap.size ≤ s_) ∧ (w.heap.size ≤ s_) ∧ (gb369 ≠ s_) ∧ (s_ ≠ gb369) ∧ (gb370 ≠ s_) ∧ (s_ ≠ gb370) ∧ (Below w.heap.size w w')) ?_ ?_
       rotate_left
       ·
        intro hJ3_9
        refine join_ (σ := Nat × Nat) 4 #[true, true, true, false, true, true, true, false, true, true, false, false] (fun s_ => [(9, .pointer (some ⟨s_.1, 0, none⟩)), (10, .pointer (some ⟨s_.2, 0, none⟩))]) (fun s_ w' => (w'.cell? ⟨gb370, 0, none⟩ = some (.bool a2_0) ∧ w'.cell? ⟨gb370, 1, none⟩ = some (.bool a2_1)) ∧ (w'.heap[gb369]? = some (.cells #[.int .i64 a1_0, .int .i64 a1_1] 49 (0, 0))) ∧ (w'.heap[gb370]? = some (.cells #[.bool a2_0, .bool a2_1] 50 (0, 0))) ∧ (w'.heap[s_.1]? = some (.cells #[.bool false, .int .i64 0] 24 (0, 0))) ∧ (w'.heap[s_.2]? = some (.cells #[.bool false, .int .i64 0] 24 (0, 0))) ∧ (w.heap.size ≤ s_.1) ∧ (w.heap.size ≤ s_.1) ∧ (gb369 ≠ s_.1) ∧ (s_.1 ≠ gb369) ∧ (gb370 ≠ s_.1) ∧ (s_.1 ≠ gb370) ∧ (s_.2 ≠ s_.1) ∧ (s_.1 ≠ s_.2) ∧ (w.heap.size ≤ s_.2) ∧ (w.heap.size ≤ s_.2) ∧ (gb369 ≠ s_.2) ∧ (s_.2 ≠ gb369) ∧ (gb370 ≠ s_.2) ∧ (s_.2 ≠ gb370) ∧ (Below w.heap.size w w')) ?_ ?_
        rotate_left
        ·
         intro hJ8_9
         refine join_ (σ := Unit) 5 #[true, true, true, true, true, true, true, false, false, false, false, false] (fun s_ => [(26, .agg #[.bool t371, .int .i64 t372])]) (fun s_ w' => (w'.cell? ⟨gb370, 0, none⟩ = some (.bool a2_0) ∧ w'.cell? ⟨gb370, 1, none⟩ = some (.bool a2_1)) ∧ (w'.heap[gb369]? = some (.cells #[.int .i64 a1_0, .int .i64 a1_1] 49 (0, 0))) ∧ (w'.heap[gb370]? = some (.cells #[.bool a2_0, .bool a2_1] 50 (0, 0))) ∧ (Below w.heap.size w w')) ?_ ?_
         rotate_left
         ·
          intro hJ3
          refine join_ (σ := Nat) 5 #[true, true, true, false, true, true, true, false, true, false, false, false] (fun s_ => [(9, .pointer (some ⟨s_, 0, none⟩))]) (fun s_ w' => (w'.cell? ⟨gb370, 0, none⟩ = some (.bool a2_0) ∧ w'.cell? ⟨gb370, 1, none⟩ = some (.bool a2_1)) ∧ (w'.heap[gb369]? = some (.cells #[.int .i64 a1_0, .int .i64 a1_1] 49 (0, 0))) ∧ (w'.heap[gb370]? = some (.cells #[.bool a2_0, .bool a2_1] 50 (0, 0))) ∧ (w'.heap[s_]? = some (.cells #[.bool false, .int .i64 0] 24 (0, 0))) ∧ (w.heap.size ≤ s_) ∧ (w.heap.size ≤ s_) ∧ (gb369 ≠ s_) ∧ (s_ ≠ gb369) ∧ (gb370 ≠ s_) ∧ (s_ ≠ gb370) ∧ (Below w.heap.size w w')) ?_ ?_
          rotate_left
          ·
           intro hJ8
           refine join_ (σ := Nat) 5 #[true, true, true, false, true, true, true, false, false, true, false, false] (fun s_ => [(10, .pointer (some ⟨s_, 0, none⟩))]) (fun s_ w' => (w'.cell? ⟨gb370, 0, none⟩ = some (.bool a2_0) ∧ w'.cell? ⟨gb370, 1, none⟩ = some (.bool a2_1)) ∧ (w'.heap[gb369]? = some (.cells #[.int .i64 a1_0, .int .i64 a1_1] 49 (0, 0))) ∧ (w'.heap[gb370]? = some (.cells #[.bool a2_0, .bool a2_1] 50 (0, 0))) ∧ (w'.heap[s_]? = some (.cells #[.bool false, .int .i64 0] 24 (0, 0))) ∧ (w.heap.size ≤ s_) ∧ (w.heap.size ≤ s_) ∧ (gb369 ≠ s_) ∧ (s_ ≠ gb369) ∧ (gb370 ≠ s_) ∧ (s_ ≠ gb370) ∧ (Below w.heap.size w w')) ?_ ?_
           rotate_left
           ·
            intro hJ9
            refine three_ (i := 3) (j := 8) (k := 9) (Ni := some 26) (Nj := some 9) (Nk := some 10) #[true, true, true, true, true, true, true, false, false, false, false, false] #[true, true, true, false, true, true, true, false, true, false, false, false] #[true, true, true, false, true, true, true, false, false, true, false, false] rfl rfl rfl rfl rfl rfl (three_of HT_.out (by kernel_rfl)) (by decide) (by decide) (by decide) (fun K hK => ?_) (fun K hK => ?_) (fun K hK => ?_)
            ·
             skip
             refine goes_ Try.func33 (by kernel_rfl) rfl #[.int .i64 a1_0, .bool a2_0] (by rfl) rfl rfl (mapq rfl) ?_
             with_reducible refine (avermentlaw09_with.calls a1_0 a2_0 t371 t372 _ A4.out).mono ?_
             rintro e w13 ⟨rfl, hb⟩
             refine ⟨_, rfl, ?_⟩
             replace BK369 := bb BK369 hb rfl; replace BK370 := bb BK370 hb rfl; replace HB := hst HB hb rfl
             (try clear hb)
             refine hK.out _ _ ⟨bc BK370 0 rfl, bc BK370 1 rfl⟩ (fun hHeld => ?_)
             clear hK K
             refine norm_ (a' := ?_) ?_ ?_
             rotate_left; · (show Act.put _ (some 26) _ = _; simp only [Act.put, List.setIfInBounds_toArray, List.set_cons_zero, List.set_cons_succ, i64_w, i32_w]; rfl)
             exact norm_ (by first | (simp only [putAll, Act.put, List.setIfInBounds_toArray, List.set_cons_zero, List.set_cons_succ]; done) | (simp only [putAll, Act.put, List.setIfInBounds_toArray, List.set_cons_zero, List.set_cons_succ]; rfl)) (hJ3 () _ ⟨hHeld, BK369.out, BK370.out, (by repeat (first | (with_reducible first | exact HB.out | apply below_alloc | apply pw_below_drewN | apply below_drew1 | refine below_set ?_ GE369.out | refine below_set ?_ GE370.out) | exact HB.out))⟩)
            ·
             skip
             refine box_step ?hg (N := 9) ?hd (cs := #[.bool false, .int .i64 0]) (t := 24) ?hr ?_; (case hd => rfl); (case hg => rfl); (case hr => first | (go_simp; done) | (go_simp; rfl))
             intro gb375 hg w13 hbox hb
             have BK375 := Aside0.mk (hbox)
             have GW375 := geb hg HB rfl
             have GE375 := geb hg HB rfl
             have NB369_375 := nbl hg BK369 rfl
             have NB375_369 := nbr hg BK369 rfl
             have NB370_375 := nbl hg BK370 rfl
             have NB375_370 := nbr hg BK370 rfl
             replace BK369 := bb BK369 hb rfl; replace BK370 := bb BK370 hb rfl; replace HB := hst HB hb rfl
             clear hb hbox hg
             refine hK.out _ _ ⟨bc BK370 0 rfl, bc BK370 1 rfl⟩ (fun hHeld => ?_)
             clear hK K
             refine norm_ (a' := ?_) ?_ ?_
             rotate_left; · (show Act.put _ (some 9) _ = _; simp only [Act.put, List.setIfInBounds_toArray, List.set_cons_zero, List.set_cons_succ, i64_w, i32_w]; rfl)
             exact norm_ (by first | (simp only [putAll, Act.put, List.setIfInBounds_toArray, List.set_cons_zero, List.set_cons_succ]; done) | (simp only [putAll, Act.put, List.setIfInBounds_toArray, List.set_cons_zero, List.set_cons_succ]; rfl)) (hJ8 (gb375) _ ⟨hHeld, BK369.out, BK370.out, BK375.out, GW375.out, GE375.out, NB369_375.out, NB375_369.out, NB370_375.out, NB375_370.out, (by repeat (first | (with_reducible first | exact HB.out | apply below_alloc | apply pw_below_drewN | apply below_drew1 | refine below_set ?_ GE369.out | refine below_set ?_ GE370.out | refine below_set ?_ GE375.out) | exact HB.out))⟩)
            ·
             skip
             refine box_step ?hg (N := 10) ?hd (cs := #[.bool false, .int .i64 0]) (t := 24) ?hr ?_; (case hd => rfl); (case hg => rfl); (case hr => first | (go_simp; done) | (go_simp; rfl))
             intro gb376 hg w13 hbox hb
             have BK376 := Aside0.mk (hbox)
             have GW376 := geb hg HB rfl
             have GE376 := geb hg HB rfl
             have NB369_376 := nbl hg BK369 rfl
             have NB376_369 := nbr hg BK369 rfl
             have NB370_376 := nbl hg BK370 rfl
             have NB376_370 := nbr hg BK370 rfl
             replace BK369 := bb BK369 hb rfl; replace BK370 := bb BK370 hb rfl; replace HB := hst HB hb rfl
             clear hb hbox hg
             refine hK.out _ _ ⟨bc BK370 0 rfl, bc BK370 1 rfl⟩ (fun hHeld => ?_)
             clear hK K
             refine norm_ (a' := ?_) ?_ ?_
             rotate_left; · (show Act.put _ (some 10) _ = _; simp only [Act.put, List.setIfInBounds_toArray, List.set_cons_zero, List.set_cons_succ, i64_w, i32_w]; rfl)
             exact norm_ (by first | (simp only [putAll, Act.put, List.setIfInBounds_toArray, List.set_cons_zero, List.set_cons_succ]; done) | (simp only [putAll, Act.put, List.setIfInBounds_toArray, List.set_cons_zero, List.set_cons_succ]; rfl)) (hJ9 (gb376) _ ⟨hHeld, BK369.out, BK370.out, BK376.out, GW376.out, GE376.out, NB369_376.out, NB376_369.out, NB370_376.out, NB376_370.out, (by repeat (first | (with_reducible first | exact HB.out | apply below_alloc | apply pw_below_drewN | apply below_drew1 | refine below_set ?_ GE369.out | refine below_set ?_ GE370.out | refine below_set ?_ GE376.out) | exact HB.out))⟩)
           ·
            skip
            rintro gb376 w14 ⟨hS_, h0_, h1_, h2_, h3_, h4_, h5_, h6_, h7_, h8_, h9_⟩
            have n0_ : Aside0 (w14.heap[gb369]? = some (.cells #[.int .i64 a1_0, .int .i64 a1_1] 49 (0, 0))) := ⟨h0_⟩
            have n1_ : Aside0 (w14.heap[gb370]? = some (.cells #[.bool a2_0, .bool a2_1] 50 (0, 0))) := ⟨h1_⟩
            have n2_ : Aside0 (w14.heap[gb376]? = some (.cells #[.bool false, .int .i64 0] 24 (0, 0))) := ⟨h2_⟩
            have n3_ : Aside0 (w.heap.size ≤ gb376) := ⟨h3_⟩
            have n4_ : Aside0 (w.heap.size ≤ gb376) := ⟨h4_⟩
            have n5_ : Aside0 (gb369 ≠ gb376) := ⟨h5_⟩
            have n6_ : Aside0 (gb376 ≠ gb369) := ⟨h6_⟩
            have n7_ : Aside0 (gb370 ≠ gb376) := ⟨h7_⟩
            have n8_ : Aside0 (gb376 ≠ gb370) := ⟨h8_⟩
            have n9_ : Aside0 (Below w.heap.size w w14) := ⟨h9_⟩
            clear BK369
            clear BK370
            clear HB
            clear h0_ h1_ h2_ h3_ h4_ h5_ h6_ h7_ h8_ h9_
            have BK369 := n0_
            have BK370 := n1_
            have BK376 := n2_
            have GW376 := n3_
            have GE376 := n4_
            have NB369_376 := n5_
            have NB376_369 := n6_
            have NB370_376 := n7_
            have NB376_370 := n8_
            have HB := n9_
            clear n0_ n1_ n2_ n3_ n4_ n5_ n6_ n7_ n8_ n9_
            have hHeld : w14.cell? ⟨gb370, 0, none⟩ = some (.bool a2_0) ∧ w14.cell? ⟨gb370, 1, none⟩ = some (.bool a2_1) := hS_
            refine norm_ (a' := ?_) ?_ ?_
            rotate_left
            ·
             simp only [putAll, Act.put, List.setIfInBounds_toArray, List.set_cons_zero, List.set_cons_succ]
             rfl
            refine two_ (i := 3) (j := 8) (Ni := some 26) (Nj := some 9) #[true, true, true, true, true, true, true, false, false, true, false, false] #[true, true, true, false, true, true, true, false, true, true, false, false] rfl rfl rfl rfl (two_of HT_.out (by kernel_rfl)) (by decide) (by decide) (fun K hK => ?_) (fun K hK => ?_)
            ·
             skip
             refine goes_ Try.func33 (by kernel_rfl) rfl #[.int .i64 a1_0, .bool a2_0] (by rfl) rfl rfl (mapq rfl) ?_
             with_reducible refine (avermentlaw09_with.calls a1_0 a2_0 t371 t372 _ A4.out).mono ?_
             rintro e w15 ⟨rfl, hb⟩
             refine ⟨_, rfl, ?_⟩
             replace BK369 := bb BK369 hb rfl; replace BK370 := bb BK370 hb rfl; replace BK376 := bb BK376 hb rfl; replace HB := hst HB hb rfl
             (try clear hb)
             refine hK.out _ _ ⟨bc BK370 0 rfl, bc BK370 1 rfl⟩ (fun hHeld => ?_)
             clear hK K
             refine norm_ (a' := ?_) ?_ ?_
             rotate_left; · (show Act.put _ (some 26) _ = _; simp only [Act.put, List.setIfInBounds_toArray, List.set_cons_zero, List.set_cons_succ, i64_w, i32_w]; rfl)
             exact norm_ (by first | (simp only [putAll, Act.put, List.setIfInBounds_toArray, List.set_cons_zero, List.set_cons_succ]; done) | (simp only [putAll, Act.put, List.setIfInBounds_toArray, List.set_cons_zero, List.set_cons_succ]; rfl)) (hJ3_9 (gb376) _ ⟨hHeld, BK369.out, BK370.out, BK376.out, GW376.out, GE376.out, NB369_376.out, NB376_369.out, NB370_376.out, NB376_370.out, (by repeat (first | (with_reducible first | exact HB.out | apply below_alloc | apply pw_below_drewN | apply below_drew1 | refine below_set ?_ GE369.out | refine below_set ?_ GE370.out | refine below_set ?_ GE376.out) | exact HB.out))⟩)
            ·
             skip
             refine box_step ?hg (N := 9) ?hd (cs := #[.bool false, .int .i64 0]) (t := 24) ?hr ?_; (case hd => rfl); (case hg => rfl); (case hr => first | (go_simp; done) | (go_simp; rfl))
             intro gb375 hg w15 hbox hb
             have BK375 := Aside0.mk (hbox)
             have GW375 := geb hg HB rfl
             have GE375 := geb hg HB rfl
             have NB369_375 := nbl hg BK369 rfl
             have NB375_369 := nbr hg BK369 rfl
             have NB370_375 := nbl hg BK370 rfl
             have NB375_370 := nbr hg BK370 rfl
             have NB376_375 := nbl hg BK376 rfl
             have NB375_376 := nbr hg BK376 rfl
             replace BK369 := bb BK369 hb rfl; replace BK370 := bb BK370 hb rfl; replace BK376 := bb BK376 hb rfl; replace HB := hst HB hb rfl
             clear hb hbox hg
             refine hK.out _ _ ⟨bc BK370 0 rfl, bc BK370 1 rfl⟩ (fun hHeld => ?_)
             clear hK K
             refine norm_ (a' := ?_) ?_ ?_
             rotate_left; · (show Act.put _ (some 9) _ = _; simp only [Act.put, List.setIfInBounds_toArray, List.set_cons_zero, List.set_cons_succ, i64_w, i32_w]; rfl)
             exact norm_ (by first | (simp only [putAll, Act.put, List.setIfInBounds_toArray, List.set_cons_zero, List.set_cons_succ]; done) | (simp only [putAll, Act.put, List.setIfInBounds_toArray, List.set_cons_zero, List.set_cons_succ]; rfl)) (hJ8_9 (gb375, gb376) _ ⟨hHeld, BK369.out, BK370.out, BK375.out, BK376.out, GW375.out, GE375.out, NB369_375.out, NB375_369.out, NB370_375.out, NB375_370.out, NB376_375.out, NB375_376.out, GW376.out, GE376.out, NB369_376.out, NB376_369.out, NB370_376.out, NB376_370.out, (by repeat (first | (with_reducible first | exact HB.out | apply below_alloc | apply pw_below_drewN | apply below_drew1 | refine below_set ?_ GE369.out | refine below_set ?_ GE370.out | refine below_set ?_ GE376.out | refine below_set ?_ GE375.out) | exact HB.out))⟩)
          ·
           skip
           rintro gb375 w14 ⟨hS_, h0_, h1_, h2_, h3_, h4_, h5_, h6_, h7_, h8_, h9_⟩
           have n0_ : Aside0 (w14.heap[gb369]? = some (.cells #[.int .i64 a1_0, .int .i64 a1_1] 49 (0, 0))) := ⟨h0_⟩
           have n1_ : Aside0 (w14.heap[gb370]? = some (.cells #[.bool a2_0, .bool a2_1] 50 (0, 0))) := ⟨h1_⟩
           have n2_ : Aside0 (w14.heap[gb375]? = some (.cells #[.bool false, .int .i64 0] 24 (0, 0))) := ⟨h2_⟩
           have n3_ : Aside0 (w.heap.size ≤ gb375) := ⟨h3_⟩
           have n4_ : Aside0 (w.heap.size ≤ gb375) := ⟨h4_⟩
           have n5_ : Aside0 (gb369 ≠ gb375) := ⟨h5_⟩
           have n6_ : Aside0 (gb375 ≠ gb369) := ⟨h6_⟩
           have n7_ : Aside0 (gb370 ≠ gb375) := ⟨h7_⟩
           have n8_ : Aside0 (gb375 ≠ gb370) := ⟨h8_⟩
           have n9_ : Aside0 (Below w.heap.size w w14) := ⟨h9_⟩
           clear BK369
           clear BK370
           clear HB
           clear h0_ h1_ h2_ h3_ h4_ h5_ h6_ h7_ h8_ h9_
           have BK369 := n0_
           have BK370 := n1_
           have BK375 := n2_
           have GW375 := n3_
           have GE375 := n4_
           have NB369_375 := n5_
           have NB375_369 := n6_
           have NB370_375 := n7_
           have NB375_370 := n8_
           have HB := n9_
           clear n0_ n1_ n2_ n3_ n4_ n5_ n6_ n7_ n8_ n9_
           have hHeld : w14.cell? ⟨gb370, 0, none⟩ = some (.bool a2_0) ∧ w14.cell? ⟨gb370, 1, none⟩ = some (.bool a2_1) := hS_
           refine norm_ (a' := ?_) ?_ ?_
           rotate_left
           ·
            simp only [putAll, Act.put, List.setIfInBounds_toArray, List.set_cons_zero, List.set_cons_succ]
            rfl
           refine two_ (i := 3) (j := 9) (Ni := some 26) (Nj := some 10) #[true, true, true, true, true, true, true, false, true, false, false, false] #[true, true, true, false, true, true, true, false, true, true, false, false] rfl rfl rfl rfl (two_of HT_.out (by kernel_rfl)) (by decide) (by decide) (fun K hK => ?_) (fun K hK => ?_)
           ·
            skip
            refine goes_ Try.func33 (by kernel_rfl) rfl #[.int .i64 a1_0, .bool a2_0] (by rfl) rfl rfl (mapq rfl) ?_
            with_reducible refine (avermentlaw09_with.calls a1_0 a2_0 t371 t372 _ A4.out).mono ?_
            rintro e w15 ⟨rfl, hb⟩
            refine ⟨_, rfl, ?_⟩
            replace BK369 := bb BK369 hb rfl; replace BK370 := bb BK370 hb rfl; replace BK375 := bb BK375 hb rfl; replace HB := hst HB hb rfl
            (try clear hb)
            refine hK.out _ _ ⟨bc BK370 0 rfl, bc BK370 1 rfl⟩ (fun hHeld => ?_)
            clear hK K
            refine norm_ (a' := ?_) ?_ ?_
            rotate_left; · (show Act.put _ (some 26) _ = _; simp only [Act.put, List.setIfInBounds_toArray, List.set_cons_zero, List.set_cons_succ, i64_w, i32_w]; rfl)
            exact norm_ (by first | (simp only [putAll, Act.put, List.setIfInBounds_toArray, List.set_cons_zero, List.set_cons_succ]; done) | (simp only [putAll, Act.put, List.setIfInBounds_toArray, List.set_cons_zero, List.set_cons_succ]; rfl)) (hJ3_8 (gb375) _ ⟨hHeld, BK369.out, BK370.out, BK375.out, GW375.out, GE375.out, NB369_375.out, NB375_369.out, NB370_375.out, NB375_370.out, (by repeat (first | (with_reducible first | exact HB.out | apply below_alloc | apply pw_below_drewN | apply below_drew1 | refine below_set ?_ GE369.out | refine below_set ?_ GE370.out | refine below_set ?_ GE375.out) | exact HB.out))⟩)
           ·
            skip
            refine box_step ?hg (N := 10) ?hd (cs := #[.bool false, .int .i64 0]) (t := 24) ?hr ?_; (case hd => rfl); (case hg => rfl); (case hr => first | (go_simp; done) | (go_simp; rfl))
            intro gb376 hg w15 hbox hb
            have BK376 := Aside0.mk (hbox)
            have GW376 := geb hg HB rfl
            have GE376 := geb hg HB rfl
            have NB369_376 := nbl hg BK369 rfl
            have NB376_369 := nbr hg BK369 rfl
            have NB370_376 := nbl hg BK370 rfl
            have NB376_370 := nbr hg BK370 rfl
            have NB375_376 := nbl hg BK375 rfl
            have NB376_375 := nbr hg BK375 rfl
            replace BK369 := bb BK369 hb rfl; replace BK370 := bb BK370 hb rfl; replace BK375 := bb BK375 hb rfl; replace HB := hst HB hb rfl
            clear hb hbox hg
            refine hK.out _ _ ⟨bc BK370 0 rfl, bc BK370 1 rfl⟩ (fun hHeld => ?_)
            clear hK K
            refine norm_ (a' := ?_) ?_ ?_
            rotate_left; · (show Act.put _ (some 10) _ = _; simp only [Act.put, List.setIfInBounds_toArray, List.set_cons_zero, List.set_cons_succ, i64_w, i32_w]; rfl)
            exact norm_ (by first | (simp only [putAll, Act.put, List.setIfInBounds_toArray, List.set_cons_zero, List.set_cons_succ]; done) | (simp only [putAll, Act.put, List.setIfInBounds_toArray, List.set_cons_zero, List.set_cons_succ]; rfl)) (hJ8_9 (gb375, gb376) _ ⟨hHeld, BK369.out, BK370.out, BK375.out, BK376.out, GW375.out, GE375.out, NB369_375.out, NB375_369.out, NB370_375.out, NB375_370.out, NB376_375.out, NB375_376.out, GW376.out, GE376.out, NB369_376.out, NB376_369.out, NB370_376.out, NB376_370.out, (by repeat (first | (with_reducible first | exact HB.out | apply below_alloc | apply pw_below_drewN | apply below_drew1 | refine below_set ?_ GE369.out | refine below_set ?_ GE370.out | refine below_set ?_ GE375.out | refine below_set ?_ GE376.out) | exact HB.out))⟩)
         ·
          skip
          rintro _ w14 ⟨hS_, h0_, h1_, h2_⟩
          have n0_ : Aside0 (w14.heap[gb369]? = some (.cells #[.int .i64 a1_0, .int .i64 a1_1] 49 (0, 0))) := ⟨h0_⟩
          have n1_ : Aside0 (w14.heap[gb370]? = some (.cells #[.bool a2_0, .bool a2_1] 50 (0, 0))) := ⟨h1_⟩
          have n2_ : Aside0 (Below w.heap.size w w14) := ⟨h2_⟩
          clear BK369
          clear BK370
          clear HB
          clear h0_ h1_ h2_
          have BK369 := n0_
          have BK370 := n1_
          have HB := n2_
          clear n0_ n1_ n2_
          have hHeld : w14.cell? ⟨gb370, 0, none⟩ = some (.bool a2_0) ∧ w14.cell? ⟨gb370, 1, none⟩ = some (.bool a2_1) := hS_
          refine norm_ (a' := ?_) ?_ ?_
          rotate_left
          ·
           simp only [putAll, Act.put, List.setIfInBounds_toArray, List.set_cons_zero, List.set_cons_succ]
           rfl
          refine three_ (i := 7) (j := 8) (k := 9) (Ni := some 30) (Nj := some 9) (Nk := some 10) #[true, true, true, true, true, true, true, true, false, false, false, false] #[true, true, true, true, true, true, true, false, true, false, false, false] #[true, true, true, true, true, true, true, false, false, true, false, false] rfl rfl rfl rfl rfl rfl (three_of HT_.out (by kernel_rfl)) (by decide) (by decide) (by decide) (fun K hK => ?_) (fun K hK => ?_) (fun K hK => ?_)
          ·
           skip
           refine goes_ Try.func33 (by kernel_rfl) rfl #[.int .i64 a1_1, .bool a2_1] (by rfl) rfl rfl (mapq rfl) ?_
           with_reducible refine (avermentlaw09_with.calls a1_1 a2_1 t373 t374 _ A5.out).mono ?_
           rintro e w15 ⟨rfl, hb⟩
           refine ⟨_, rfl, ?_⟩
           replace BK369 := bb BK369 hb rfl; replace BK370 := bb BK370 hb rfl; replace HB := hst HB hb rfl
           (try clear hb)
           refine hK.out _ _ ⟨bc BK370 0 rfl, bc BK370 1 rfl⟩ (fun hHeld => ?_)
           clear hK K
           refine norm_ (a' := ?_) ?_ ?_
           rotate_left; · (show Act.put _ (some 30) _ = _; simp only [Act.put, List.setIfInBounds_toArray, List.set_cons_zero, List.set_cons_succ, i64_w, i32_w]; rfl)
           exact norm_ (by first | (simp only [putAll, Act.put, List.setIfInBounds_toArray, List.set_cons_zero, List.set_cons_succ]; done) | (simp only [putAll, Act.put, List.setIfInBounds_toArray, List.set_cons_zero, List.set_cons_succ]; rfl)) (hJ3_7 () _ ⟨hHeld, BK369.out, BK370.out, (by repeat (first | (with_reducible first | exact HB.out | apply below_alloc | apply pw_below_drewN | apply below_drew1 | refine below_set ?_ GE369.out | refine below_set ?_ GE370.out) | exact HB.out))⟩)
          ·
           skip
           refine box_step ?hg (N := 9) ?hd (cs := #[.bool false, .int .i64 0]) (t := 24) ?hr ?_; (case hd => rfl); (case hg => rfl); (case hr => first | (go_simp; done) | (go_simp; rfl))
           intro gb375 hg w15 hbox hb
           have BK375 := Aside0.mk (hbox)
           have GW375 := geb hg HB rfl
           have GE375 := geb hg HB rfl
           have NB369_375 := nbl hg BK369 rfl
           have NB375_369 := nbr hg BK369 rfl
           have NB370_375 := nbl hg BK370 rfl
           have NB375_370 := nbr hg BK370 rfl
           replace BK369 := bb BK369 hb rfl; replace BK370 := bb BK370 hb rfl; replace HB := hst HB hb rfl
           clear hb hbox hg
           refine hK.out _ _ ⟨bc BK370 0 rfl, bc BK370 1 rfl⟩ (fun hHeld => ?_)
           clear hK K
           refine norm_ (a' := ?_) ?_ ?_
           rotate_left; · (show Act.put _ (some 9) _ = _; simp only [Act.put, List.setIfInBounds_toArray, List.set_cons_zero, List.set_cons_succ, i64_w, i32_w]; rfl)
           exact norm_ (by first | (simp only [putAll, Act.put, List.setIfInBounds_toArray, List.set_cons_zero, List.set_cons_succ]; done) | (simp only [putAll, Act.put, List.setIfInBounds_toArray, List.set_cons_zero, List.set_cons_succ]; rfl)) (hJ3_8 (gb375) _ ⟨hHeld, BK369.out, BK370.out, BK375.out, GW375.out, GE375.out, NB369_375.out, NB375_369.out, NB370_375.out, NB375_370.out, (by repeat (first | (with_reducible first | exact HB.out | apply below_alloc | apply pw_below_drewN | apply below_drew1 | refine below_set ?_ GE369.out | refine below_set ?_ GE370.out | refine below_set ?_ GE375.out) | exact HB.out))⟩)
          ·
           skip
           refine box_step ?hg (N := 10) ?hd (cs := #[.bool false, .int .i64 0]) (t := 24) ?hr ?_; (case hd => rfl); (case hg => rfl); (case hr => first | (go_simp; done) | (go_simp; rfl))
           intro gb376 hg w15 hbox hb
           have BK376 := Aside0.mk (hbox)
           have GW376 := geb hg HB rfl
           have GE376 := geb hg HB rfl
           have NB369_376 := nbl hg BK369 rfl
           have NB376_369 := nbr hg BK369 rfl
           have NB370_376 := nbl hg BK370 rfl
           have NB376_370 := nbr hg BK370 rfl
           replace BK369 := bb BK369 hb rfl; replace BK370 := bb BK370 hb rfl; replace HB := hst HB hb rfl
           clear hb hbox hg
           refine hK.out _ _ ⟨bc BK370 0 rfl, bc BK370 1 rfl⟩ (fun hHeld => ?_)
           clear hK K
           refine norm_ (a' := ?_) ?_ ?_
           rotate_left; · (show Act.put _ (some 10) _ = _; simp only [Act.put, List.setIfInBounds_toArray, List.set_cons_zero, List.set_cons_succ, i64_w, i32_w]; rfl)
           exact norm_ (by first | (simp only [putAll, Act.put, List.setIfInBounds_toArray, List.set_cons_zero, List.set_cons_succ]; done) | (simp only [putAll, Act.put, List.setIfInBounds_toArray, List.set_cons_zero, List.set_cons_succ]; rfl)) (hJ3_9 (gb376) _ ⟨hHeld, BK369.out, BK370.out, BK376.out, GW376.out, GE376.out, NB369_376.out, NB376_369.out, NB370_376.out, NB376_370.out, (by repeat (first | (with_reducible first | exact HB.out | apply below_alloc | apply pw_below_drewN | apply below_drew1 | refine below_set ?_ GE369.out | refine below_set ?_ GE370.out | refine below_set ?_ GE376.out) | exact HB.out))⟩)
        ·
         skip
         rintro ⟨gb375, gb376⟩ w15 ⟨hS_, h0_, h1_, h2_, h3_, h4_, h5_, h6_, h7_, h8_, h9_, h10_, h11_, h12_, h13_, h14_, h15_, h16_, h17_, h18_⟩
         have n0_ : Aside0 (w15.heap[gb369]? = some (.cells #[.int .i64 a1_0, .int .i64 a1_1] 49 (0, 0))) := ⟨h0_⟩
         have n1_ : Aside0 (w15.heap[gb370]? = some (.cells #[.bool a2_0, .bool a2_1] 50 (0, 0))) := ⟨h1_⟩
         have n2_ : Aside0 (w15.heap[gb375]? = some (.cells #[.bool false, .int .i64 0] 24 (0, 0))) := ⟨h2_⟩
         have n3_ : Aside0 (w15.heap[gb376]? = some (.cells #[.bool false, .int .i64 0] 24 (0, 0))) := ⟨h3_⟩
         have n4_ : Aside0 (w.heap.size ≤ gb375) := ⟨h4_⟩
         have n5_ : Aside0 (w.heap.size ≤ gb375) := ⟨h5_⟩
         have n6_ : Aside0 (gb369 ≠ gb375) := ⟨h6_⟩
         have n7_ : Aside0 (gb375 ≠ gb369) := ⟨h7_⟩
         have n8_ : Aside0 (gb370 ≠ gb375) := ⟨h8_⟩
         have n9_ : Aside0 (gb375 ≠ gb370) := ⟨h9_⟩
         have n10_ : Aside0 (gb376 ≠ gb375) := ⟨h10_⟩
         have n11_ : Aside0 (gb375 ≠ gb376) := ⟨h11_⟩
         have n12_ : Aside0 (w.heap.size ≤ gb376) := ⟨h12_⟩
         have n13_ : Aside0 (w.heap.size ≤ gb376) := ⟨h13_⟩
         have n14_ : Aside0 (gb369 ≠ gb376) := ⟨h14_⟩
         have n15_ : Aside0 (gb376 ≠ gb369) := ⟨h15_⟩
         have n16_ : Aside0 (gb370 ≠ gb376) := ⟨h16_⟩
         have n17_ : Aside0 (gb376 ≠ gb370) := ⟨h17_⟩
         have n18_ : Aside0 (Below w.heap.size w w15) := ⟨h18_⟩
         clear BK369
         clear BK370
         clear HB
         clear h0_ h1_ h2_ h3_ h4_ h5_ h6_ h7_ h8_ h9_ h10_ h11_ h12_ h13_ h14_ h15_ h16_ h17_ h18_
         have BK369 := n0_
         have BK370 := n1_
         have BK375 := n2_
         have BK376 := n3_
         have GW375 := n4_
         have GE375 := n5_
         have NB369_375 := n6_
         have NB375_369 := n7_
         have NB370_375 := n8_
         have NB375_370 := n9_
         have NB376_375 := n10_
         have NB375_376 := n11_
         have GW376 := n12_
         have GE376 := n13_
         have NB369_376 := n14_
         have NB376_369 := n15_
         have NB370_376 := n16_
         have NB376_370 := n17_
         have HB := n18_
         clear n0_ n1_ n2_ n3_ n4_ n5_ n6_ n7_ n8_ n9_ n10_ n11_ n12_ n13_ n14_ n15_ n16_ n17_ n18_
         have hHeld : w15.cell? ⟨gb370, 0, none⟩ = some (.bool a2_0) ∧ w15.cell? ⟨gb370, 1, none⟩ = some (.bool a2_1) := hS_
         refine norm_ (a' := ?_) ?_ ?_
         rotate_left
         ·
          simp only [putAll, Act.put, List.setIfInBounds_toArray, List.set_cons_zero, List.set_cons_succ]
          rfl
         refine one_ (i := 3) (N := some 26) #[true, true, true, true, true, true, true, false, true, true, false, false] rfl rfl (one_of HT_.out (by kernel_rfl)) (by decide) (fun K hK => ?_)
         refine goes_ Try.func33 (by kernel_rfl) rfl #[.int .i64 a1_0, .bool a2_0] (by rfl) rfl rfl (mapq rfl) ?_
         with_reducible refine (avermentlaw09_with.calls a1_0 a2_0 t371 t372 _ A4.out).mono ?_
         rintro e w16 ⟨rfl, hb⟩
         refine ⟨_, rfl, ?_⟩
         replace BK369 := bb BK369 hb rfl; replace BK370 := bb BK370 hb rfl; replace BK375 := bb BK375 hb rfl; replace BK376 := bb BK376 hb rfl; replace HB := hst HB hb rfl
         (try clear hb)
         refine hK.out _ _ ⟨bc BK370 0 rfl, bc BK370 1 rfl⟩ (fun hHeld => ?_)
         clear hK K
         refine norm_ (a' := ?_) ?_ ?_
         rotate_left; · (show Act.put _ (some 26) _ = _; simp only [Act.put, List.setIfInBounds_toArray, List.set_cons_zero, List.set_cons_succ, i64_w, i32_w]; rfl)
         exact norm_ (by first | (simp only [putAll, Act.put, List.setIfInBounds_toArray, List.set_cons_zero, List.set_cons_succ]; done) | (simp only [putAll, Act.put, List.setIfInBounds_toArray, List.set_cons_zero, List.set_cons_succ]; rfl)) (hJ3_8_9 (gb375, gb376) _ ⟨hHeld, BK369.out, BK370.out, BK375.out, BK376.out, GW375.out, GE375.out, NB369_375.out, NB375_369.out, NB370_375.out, NB375_370.out, NB376_375.out, NB375_376.out, GW376.out, GE376.out, NB369_376.out, NB376_369.out, NB370_376.out, NB376_370.out, (by repeat (first | (with_reducible first | exact HB.out | apply below_alloc | apply pw_below_drewN | apply below_drew1 | refine below_set ?_ GE369.out | refine below_set ?_ GE370.out | refine below_set ?_ GE375.out | refine below_set ?_ GE376.out) | exact HB.out))⟩)
       ·
        skip
        rintro gb376 w15 ⟨hS_, h0_, h1_, h2_, h3_, h4_, h5_, h6_, h7_, h8_, h9_⟩
        have n0_ : Aside0 (w15.heap[gb369]? = some (.cells #[.int .i64 a1_0, .int .i64 a1_1] 49 (0, 0))) := ⟨h0_⟩
        have n1_ : Aside0 (w15.heap[gb370]? = some (.cells #[.bool a2_0, .bool a2_1] 50 (0, 0))) := ⟨h1_⟩
        have n2_ : Aside0 (w15.heap[gb376]? = some (.cells #[.bool false, .int .i64 0] 24 (0, 0))) := ⟨h2_⟩
        have n3_ : Aside0 (w.heap.size ≤ gb376) := ⟨h3_⟩
        have n4_ : Aside0 (w.heap.size ≤ gb376) := ⟨h4_⟩
        have n5_ : Aside0 (gb369 ≠ gb376) := ⟨h5_⟩
        have n6_ : Aside0 (gb376 ≠ gb369) := ⟨h6_⟩
        have n7_ : Aside0 (gb370 ≠ gb376) := ⟨h7_⟩
        have n8_ : Aside0 (gb376 ≠ gb370) := ⟨h8_⟩
        have n9_ : Aside0 (Below w.heap.size w w15) := ⟨h9_⟩
        clear BK369
        clear BK370
        clear HB
        clear h0_ h1_ h2_ h3_ h4_ h5_ h6_ h7_ h8_ h9_
        have BK369 := n0_
        have BK370 := n1_
        have BK376 := n2_
        have GW376 := n3_
        have GE376 := n4_
        have NB369_376 := n5_
        have NB376_369 := n6_
        have NB370_376 := n7_
        have NB376_370 := n8_
        have HB := n9_
        clear n0_ n1_ n2_ n3_ n4_ n5_ n6_ n7_ n8_ n9_
        have hHeld : w15.cell? ⟨gb370, 0, none⟩ = some (.bool a2_0) ∧ w15.cell? ⟨gb370, 1, none⟩ = some (.bool a2_1) := hS_
        refine norm_ (a' := ?_) ?_ ?_
        rotate_left
        ·
         simp only [putAll, Act.put, List.setIfInBounds_toArray, List.set_cons_zero, List.set_cons_succ]
         rfl
        refine two_ (i := 7) (j := 8) (Ni := some 30) (Nj := some 9) #[true, true, true, true, true, true, true, true, false, true, false, false] #[true, true, true, true, true, true, true, false, true, true, false, false] rfl rfl rfl rfl (two_of HT_.out (by kernel_rfl)) (by decide) (by decide) (fun K hK => ?_) (fun K hK => ?_)
        ·
         skip
         refine goes_ Try.func33 (by kernel_rfl) rfl #[.int .i64 a1_1, .bool a2_1] (by rfl) rfl rfl (mapq rfl) ?_
         with_reducible refine (avermentlaw09_with.calls a1_1 a2_1 t373 t374 _ A5.out).mono ?_
         rintro e w16 ⟨rfl, hb⟩
         refine ⟨_, rfl, ?_⟩
         replace BK369 := bb BK369 hb rfl; replace BK370 := bb BK370 hb rfl; replace BK376 := bb BK376 hb rfl; replace HB := hst HB hb rfl
         (try clear hb)
         refine hK.out _ _ ⟨bc BK370 0 rfl, bc BK370 1 rfl⟩ (fun hHeld => ?_)
         clear hK K
         refine norm_ (a' := ?_) ?_ ?_
         rotate_left; · (show Act.put _ (some 30) _ = _; simp only [Act.put, List.setIfInBounds_toArray, List.set_cons_zero, List.set_cons_succ, i64_w, i32_w]; rfl)
         exact norm_ (by first | (simp only [putAll, Act.put, List.setIfInBounds_toArray, List.set_cons_zero, List.set_cons_succ]; done) | (simp only [putAll, Act.put, List.setIfInBounds_toArray, List.set_cons_zero, List.set_cons_succ]; rfl)) (hJ3_7_9 (gb376) _ ⟨hHeld, BK369.out, BK370.out, BK376.out, GW376.out, GE376.out, NB369_376.out, NB376_369.out, NB370_376.out, NB376_370.out, (by repeat (first | (with_reducible first | exact HB.out | apply below_alloc | apply pw_below_drewN | apply below_drew1 | refine below_set ?_ GE369.out | refine below_set ?_ GE370.out | refine below_set ?_ GE376.out) | exact HB.out))⟩)
        ·
         skip
         refine box_step ?hg (N := 9) ?hd (cs := #[.bool false, .int .i64 0]) (t := 24) ?hr ?_; (case hd => rfl); (case hg => rfl); (case hr => first | (go_simp; done) | (go_simp; rfl))
         intro gb375 hg w16 hbox hb
         have BK375 := Aside0.mk (hbox)
         have GW375 := geb hg HB rfl
         have GE375 := geb hg HB rfl
         have NB369_375 := nbl hg BK369 rfl
         have NB375_369 := nbr hg BK369 rfl
         have NB370_375 := nbl hg BK370 rfl
         have NB375_370 := nbr hg BK370 rfl
         have NB376_375 := nbl hg BK376 rfl
         have NB375_376 := nbr hg BK376 rfl
         replace BK369 := bb BK369 hb rfl; replace BK370 := bb BK370 hb rfl; replace BK376 := bb BK376 hb rfl; replace HB := hst HB hb rfl
         clear hb hbox hg
         refine hK.out _ _ ⟨bc BK370 0 rfl, bc BK370 1 rfl⟩ (fun hHeld => ?_)
         clear hK K
         refine norm_ (a' := ?_) ?_ ?_
         rotate_left; · (show Act.put _ (some 9) _ = _; simp only [Act.put, List.setIfInBounds_toArray, List.set_cons_zero, List.set_cons_succ, i64_w, i32_w]; rfl)
         exact norm_ (by first | (simp only [putAll, Act.put, List.setIfInBounds_toArray, List.set_cons_zero, List.set_cons_succ]; done) | (simp only [putAll, Act.put, List.setIfInBounds_toArray, List.set_cons_zero, List.set_cons_succ]; rfl)) (hJ3_8_9 (gb375, gb376) _ ⟨hHeld, BK369.out, BK370.out, BK375.out, BK376.out, GW375.out, GE375.out, NB369_375.out, NB375_369.out, NB370_375.out, NB375_370.out, NB376_375.out, NB375_376.out, GW376.out, GE376.out, NB369_376.out, NB376_369.out, NB370_376.out, NB376_370.out, (by repeat (first | (with_reducible first | exact HB.out | apply below_alloc | apply pw_below_drewN | apply below_drew1 | refine below_set ?_ GE369.out | refine below_set ?_ GE370.out | refine below_set ?_ GE376.out | refine below_set ?_ GE375.out) | exact HB.out))⟩)
      ·
       skip
       rintro gb375 w15 ⟨hS_, h0_, h1_, h2_, h3_, h4_, h5_, h6_, h7_, h8_, h9_⟩
       have n0_ : Aside0 (w15.heap[gb369]? = some (.cells #[.int .i64 a1_0, .int .i64 a1_1] 49 (0, 0))) := ⟨h0_⟩
       have n1_ : Aside0 (w15.heap[gb370]? = some (.cells #[.bool a2_0, .bool a2_1] 50 (0, 0))) := ⟨h1_⟩
       have n2_ : Aside0 (w15.heap[gb375]? = some (.cells #[.bool false, .int .i64 0] 24 (0, 0))) := ⟨h2_⟩
       have n3_ : Aside0 (w.heap.size ≤ gb375) := ⟨h3_⟩
       have n4_ : Aside0 (w.heap.size ≤ gb375) := ⟨h4_⟩
       have n5_ : Aside0 (gb369 ≠ gb375) := ⟨h5_⟩
       have n6_ : Aside0 (gb375 ≠ gb369) := ⟨h6_⟩
       have n7_ : Aside0 (gb370 ≠ gb375) := ⟨h7_⟩
       have n8_ : Aside0 (gb375 ≠ gb370) := ⟨h8_⟩
       have n9_ : Aside0 (Below w.heap.size w w15) := ⟨h9_⟩
       clear BK369
       clear BK370
       clear HB
       clear h0_ h1_ h2_ h3_ h4_ h5_ h6_ h7_ h8_ h9_
       have BK369 := n0_
       have BK370 := n1_
       have BK375 := n2_
       have GW375 := n3_
       have GE375 := n4_
       have NB369_375 := n5_
       have NB375_369 := n6_
       have NB370_375 := n7_
       have NB375_370 := n8_
       have HB := n9_
       clear n0_ n1_ n2_ n3_ n4_ n5_ n6_ n7_ n8_ n9_
       have hHeld : w15.cell? ⟨gb370, 0, none⟩ = some (.bool a2_0) ∧ w15.cell? ⟨gb370, 1, none⟩ = some (.bool a2_1) := hS_
       refine norm_ (a' := ?_) ?_ ?_
       rotate_left
       ·
        simp only [putAll, Act.put, List.setIfInBounds_toArray, List.set_cons_zero, List.set_cons_succ]
        rfl
       refine two_ (i := 7) (j := 9) (Ni := some 30) (Nj := some 10) #[true, true, true, true, true, true, true, true, true, false, false, false] #[true, true, true, true, true, true, true, false, true, true, false, false] rfl rfl rfl rfl (two_of HT_.out (by kernel_rfl)) (by decide) (by decide) (fun K hK => ?_) (fun K hK => ?_)
       ·
        skip
        refine goes_ Try.func33 (by kernel_rfl) rfl #[.int .i64 a1_1, .bool a2_1] (by rfl) rfl rfl (mapq rfl) ?_
        with_reducible refine (avermentlaw09_with.calls a1_1 a2_1 t373 t374 _ A5.out).mono ?_
        rintro e w16 ⟨rfl, hb⟩
        refine ⟨_, rfl, ?_⟩
        replace BK369 := bb BK369 hb rfl; replace BK370 := bb BK370 hb rfl; replace BK375 := bb BK375 hb rfl; replace HB := hst HB hb rfl
        (try clear hb)
        refine hK.out _ _ ⟨bc BK370 0 rfl, bc BK370 1 rfl⟩ (fun hHeld => ?_)
        clear hK K
        refine norm_ (a' := ?_) ?_ ?_
        rotate_left; · (show Act.put _ (some 30) _ = _; simp only [Act.put, List.setIfInBounds_toArray, List.set_cons_zero, List.set_cons_succ, i64_w, i32_w]; rfl)
        exact norm_ (by first | (simp only [putAll, Act.put, List.setIfInBounds_toArray, List.set_cons_zero, List.set_cons_succ]; done) | (simp only [putAll, Act.put, List.setIfInBounds_toArray, List.set_cons_zero, List.set_cons_succ]; rfl)) (hJ3_7_8 (gb375) _ ⟨hHeld, BK369.out, BK370.out, BK375.out, GW375.out, GE375.out, NB369_375.out, NB375_369.out, NB370_375.out, NB375_370.out, (by repeat (first | (with_reducible first | exact HB.out | apply below_alloc | apply pw_below_drewN | apply below_drew1 | refine below_set ?_ GE369.out | refine below_set ?_ GE370.out | refine below_set ?_ GE375.out) | exact HB.out))⟩)
       ·
        skip
        refine box_step ?hg (N := 10) ?hd (cs := #[.bool false, .int .i64 0]) (t := 24) ?hr ?_; (case hd => rfl); (case hg => rfl); (case hr => first | (go_simp; done) | (go_simp; rfl))
        intro gb376 hg w16 hbox hb
        have BK376 := Aside0.mk (hbox)
        have GW376 := geb hg HB rfl
        have GE376 := geb hg HB rfl
        have NB369_376 := nbl hg BK369 rfl
        have NB376_369 := nbr hg BK369 rfl
        have NB370_376 := nbl hg BK370 rfl
        have NB376_370 := nbr hg BK370 rfl
        have NB375_376 := nbl hg BK375 rfl
        have NB376_375 := nbr hg BK375 rfl
        replace BK369 := bb BK369 hb rfl; replace BK370 := bb BK370 hb rfl; replace BK375 := bb BK375 hb rfl; replace HB := hst HB hb rfl
        clear hb hbox hg
        refine hK.out _ _ ⟨bc BK370 0 rfl, bc BK370 1 rfl⟩ (fun hHeld => ?_)
        clear hK K
        refine norm_ (a' := ?_) ?_ ?_
        rotate_left; · (show Act.put _ (some 10) _ = _; simp only [Act.put, List.setIfInBounds_toArray, List.set_cons_zero, List.set_cons_succ, i64_w, i32_w]; rfl)
        exact norm_ (by first | (simp only [putAll, Act.put, List.setIfInBounds_toArray, List.set_cons_zero, List.set_cons_succ]; done) | (simp only [putAll, Act.put, List.setIfInBounds_toArray, List.set_cons_zero, List.set_cons_succ]; rfl)) (hJ3_8_9 (gb375, gb376) _ ⟨hHeld, BK369.out, BK370.out, BK375.out, BK376.out, GW375.out, GE375.out, NB369_375.out, NB375_369.out, NB370_375.out, NB375_370.out, NB376_375.out, NB375_376.out, GW376.out, GE376.out, NB369_376.out, NB376_369.out, NB370_376.out, NB376_370.out, (by repeat (first | (with_reducible first | exact HB.out | apply below_alloc | apply pw_below_drewN | apply below_drew1 | refine below_set ?_ GE369.out | refine below_set ?_ GE370.out | refine below_set ?_ GE375.out | refine below_set ?_ GE376.out) | exact HB.out))⟩)
     ·
      skip
      rintro _ w15 ⟨hS_, h0_, h1_, h2_⟩
      have n0_ : Aside0 (w15.heap[gb369]? = some (.cells #[.int .i64 a1_0, .int .i64 a1_1] 49 (0, 0))) := ⟨h0_⟩
      have n1_ : Aside0 (w15.heap[gb370]? = some (.cells #[.bool a2_0, .bool a2_1] 50 (0, 0))) := ⟨h1_⟩
      have n2_ : Aside0 (Below w.heap.size w w15) := ⟨h2_⟩
      clear BK369
      clear BK370
      clear HB
      clear h0_ h1_ h2_
      have BK369 := n0_
      have BK370 := n1_
      have HB := n2_
      clear n0_ n1_ n2_
      have hHeld : w15.cell? ⟨gb370, 0, none⟩ = some (.bool a2_0) ∧ w15.cell? ⟨gb370, 1, none⟩ = some (.bool a2_1) := hS_
      refine norm_ (a' := ?_) ?_ ?_
      rotate_left
      ·
       simp only [putAll, Act.put, List.setIfInBounds_toArray, List.set_cons_zero, List.set_cons_succ]
       rfl
      refine two_ (i := 8) (j := 9) (Ni := some 9) (Nj := some 10) #[true, true, true, true, true, true, true, true, true, false, false, false] #[true, true, true, true, true, true, true, true, false, true, false, false] rfl rfl rfl rfl (two_of HT_.out (by kernel_rfl)) (by decide) (by decide) (fun K hK => ?_) (fun K hK => ?_)
      ·
       skip
       refine box_step ?hg (N := 9) ?hd (cs := #[.bool false, .int .i64 0]) (t := 24) ?hr ?_; (case hd => rfl); (case hg => rfl); (case hr => first | (go_simp; done) | (go_simp; rfl))
       intro gb375 hg w16 hbox hb
       have BK375 := Aside0.mk (hbox)
       have GW375 := geb hg HB rfl
       have GE375 := geb hg HB rfl
       have NB369_375 := nbl hg BK369 rfl
       have NB375_369 := nbr hg BK369 rfl
       have NB370_375 := nbl hg BK370 rfl
       have NB375_370 := nbr hg BK370 rfl
       replace BK369 := bb BK369 hb rfl; replace BK370 := bb BK370 hb rfl; replace HB := hst HB hb rfl
       clear hb hbox hg
       refine hK.out _ _ ⟨bc BK370 0 rfl, bc BK370 1 rfl⟩ (fun hHeld => ?_)
       clear hK K
       refine norm_ (a' := ?_) ?_ ?_
       rotate_left; · (show Act.put _ (some 9) _ = _; simp only [Act.put, List.setIfInBounds_toArray, List.set_cons_zero, List.set_cons_succ, i64_w, i32_w]; rfl)
       exact norm_ (by first | (simp only [putAll, Act.put, List.setIfInBounds_toArray, List.set_cons_zero, List.set_cons_succ]; done) | (simp only [putAll, Act.put, List.setIfInBounds_toArray, List.set_cons_zero, List.set_cons_succ]; rfl)) (hJ3_7_8 (gb375) _ ⟨hHeld, BK369.out, BK370.out, BK375.out, GW375.out, GE375.out, NB369_375.out, NB375_369.out, NB370_375.out, NB375_370.out, (by repeat (first | (with_reducible first | exact HB.out | apply below_alloc | apply pw_below_drewN | apply below_drew1 | refine below_set ?_ GE369.out | refine below_set ?_ GE370.out | refine below_set ?_ GE375.out) | exact HB.out))⟩)
      ·
       skip
       refine box_step ?hg (N := 10) ?hd (cs := #[.bool false, .int .i64 0]) (t := 24) ?hr ?_; (case hd => rfl); (case hg => rfl); (case hr => first | (go_simp; done) | (go_simp; rfl))
       intro gb376 hg w16 hbox hb
       have BK376 := Aside0.mk (hbox)
       have GW376 := geb hg HB rfl
       have GE376 := geb hg HB rfl
       have NB369_376 := nbl hg BK369 rfl
       have NB376_369 := nbr hg BK369 rfl
       have NB370_376 := nbl hg BK370 rfl
       have NB376_370 := nbr hg BK370 rfl
       replace BK369 := bb BK369 hb rfl; replace BK370 := bb BK370 hb rfl; replace HB := hst HB hb rfl
       clear hb hbox hg
       refine hK.out _ _ ⟨bc BK370 0 rfl, bc BK370 1 rfl⟩ (fun hHeld => ?_)
       clear hK K
       refine norm_ (a' := ?_) ?_ ?_
       rotate_left; · (show Act.put _ (some 10) _ = _; simp only [Act.put, List.setIfInBounds_toArray, List.set_cons_zero, List.set_cons_succ, i64_w, i32_w]; rfl)
       exact norm_ (by first | (simp only [putAll, Act.put, List.setIfInBounds_toArray, List.set_cons_zero, List.set_cons_succ]; done) | (simp only [putAll, Act.put, List.setIfInBounds_toArray, List.set_cons_zero, List.set_cons_succ]; rfl)) (hJ3_7_9 (gb376) _ ⟨hHeld, BK369.out, BK370.out, BK376.out, GW376.out, GE376.out, NB369_376.out, NB376_369.out, NB370_376.out, NB376_370.out, (by repeat (first | (with_reducible first | exact HB.out | apply below_alloc | apply pw_below_drewN | apply below_drew1 | refine below_set ?_ GE369.out | refine below_set ?_ GE370.out | refine below_set ?_ GE376.out) | exact HB.out))⟩)
    ·
     skip
     rintro ⟨gb375, gb376⟩ w16 ⟨hS_, h0_, h1_, h2_, h3_, h4_, h5_, h6_, h7_, h8_, h9_, h10_, h11_, h12_, h13_, h14_, h15_, h16_, h17_, h18_⟩
     have n0_ : Aside0 (w16.heap[gb369]? = some (.cells #[.int .i64 a1_0, .int .i64 a1_1] 49 (0, 0))) := ⟨h0_⟩
     have n1_ : Aside0 (w16.heap[gb370]? = some (.cells #[.bool a2_0, .bool a2_1] 50 (0, 0))) := ⟨h1_⟩
     have n2_ : Aside0 (w16.heap[gb375]? = some (.cells #[.bool false, .int .i64 0] 24 (0, 0))) := ⟨h2_⟩
     have n3_ : Aside0 (w16.heap[gb376]? = some (.cells #[.bool false, .int .i64 0] 24 (0, 0))) := ⟨h3_⟩
     have n4_ : Aside0 (w.heap.size ≤ gb375) := ⟨h4_⟩
     have n5_ : Aside0 (w.heap.size ≤ gb375) := ⟨h5_⟩
     have n6_ : Aside0 (gb369 ≠ gb375) := ⟨h6_⟩
     have n7_ : Aside0 (gb375 ≠ gb369) := ⟨h7_⟩
     have n8_ : Aside0 (gb370 ≠ gb375) := ⟨h8_⟩
     have n9_ : Aside0 (gb375 ≠ gb370) := ⟨h9_⟩
     have n10_ : Aside0 (gb376 ≠ gb375) := ⟨h10_⟩
     have n11_ : Aside0 (gb375 ≠ gb376) := ⟨h11_⟩
     have n12_ : Aside0 (w.heap.size ≤ gb376) := ⟨h12_⟩
     have n13_ : Aside0 (w.heap.size ≤ gb376) := ⟨h13_⟩
     have n14_ : Aside0 (gb369 ≠ gb376) := ⟨h14_⟩
     have n15_ : Aside0 (gb376 ≠ gb369) := ⟨h15_⟩
     have n16_ : Aside0 (gb370 ≠ gb376) := ⟨h16_⟩
     have n17_ : Aside0 (gb376 ≠ gb370) := ⟨h17_⟩
     have n18_ : Aside0 (Below w.heap.size w w16) := ⟨h18_⟩
     clear BK369
     clear BK370
     clear HB
     clear h0_ h1_ h2_ h3_ h4_ h5_ h6_ h7_ h8_ h9_ h10_ h11_ h12_ h13_ h14_ h15_ h16_ h17_ h18_
     have BK369 := n0_
     have BK370 := n1_
     have BK375 := n2_
     have BK376 := n3_
     have GW375 := n4_
     have GE375 := n5_
     have NB369_375 := n6_
     have NB375_369 := n7_
     have NB370_375 := n8_
     have NB375_370 := n9_
     have NB376_375 := n10_
     have NB375_376 := n11_
     have GW376 := n12_
     have GE376 := n13_
     have NB369_376 := n14_
     have NB376_369 := n15_
     have NB370_376 := n16_
     have NB376_370 := n17_
     have HB := n18_
     clear n0_ n1_ n2_ n3_ n4_ n5_ n6_ n7_ n8_ n9_ n10_ n11_ n12_ n13_ n14_ n15_ n16_ n17_ n18_
     have hHeld : w16.cell? ⟨gb370, 0, none⟩ = some (.bool a2_0) ∧ w16.cell? ⟨gb370, 1, none⟩ = some (.bool a2_1) := hS_
     refine norm_ (a' := ?_) ?_ ?_
     rotate_left
     ·
      simp only [putAll, Act.put, List.setIfInBounds_toArray, List.set_cons_zero, List.set_cons_succ]
      rfl
     refine one_ (i := 7) (N := some 30) #[true, true, true, true, true, true, true, true, true, true, false, false] rfl rfl (one_of HT_.out (by kernel_rfl)) (by decide) (fun K hK => ?_)
     refine goes_ Try.func33 (by kernel_rfl) rfl #[.int .i64 a1_1, .bool a2_1] (by rfl) rfl rfl (mapq rfl) ?_
     with_reducible refine (avermentlaw09_with.calls a1_1 a2_1 t373 t374 _ A5.out).mono ?_
     rintro e w17 ⟨rfl, hb⟩
     refine ⟨_, rfl, ?_⟩
     replace BK369 := bb BK369 hb rfl; replace BK370 := bb BK370 hb rfl; replace BK375 := bb BK375 hb rfl; replace BK376 := bb BK376 hb rfl; replace HB := hst HB hb rfl
     (try clear hb)
     refine hK.out _ _ ⟨bc BK370 0 rfl, bc BK370 1 rfl⟩ (fun hHeld => ?_)
     clear hK K
     refine norm_ (a' := ?_) ?_ ?_
     rotate_left; · (show Act.put _ (some 30) _ = _; simp only [Act.put, List.setIfInBounds_toArray, List.set_cons_zero, List.set_cons_succ, i64_w, i32_w]; rfl)
     exact norm_ (by first | (simp only [putAll, Act.put, List.setIfInBounds_toArray, List.set_cons_zero, List.set_cons_succ]; done) | (simp only [putAll, Act.put, List.setIfInBounds_toArray, List.set_cons_zero, List.set_cons_succ]; rfl)) (hJ3_7_8_9 (gb375, gb376) _ ⟨hHeld, BK369.out, BK370.out, BK375.out, BK376.out, GW375.out, GE375.out, NB369_375.out, NB375_369.out, NB370_375.out, NB375_370.out, NB376_375.out, NB375_376.out, GW376.out, GE376.out, NB369_376.out, NB376_369.out, NB370_376.out, NB376_370.out, (by repeat (first | (with_reducible first | exact HB.out | apply below_alloc | apply pw_below_drewN | apply below_drew1 | refine below_set ?_ GE369.out | refine below_set ?_ GE370.out | refine below_set ?_ GE375.out | refine below_set ?_ GE376.out) | exact HB.out))⟩)
   ·
    skip
    rintro gb376 w16 ⟨hS_, h0_, h1_, h2_, h3_, h4_, h5_, h6_, h7_, h8_, h9_⟩
    have n0_ : Aside0 (w16.heap[gb369]? = some (.cells #[.int .i64 a1_0, .int .i64 a1_1] 49 (0, 0))) := ⟨h0_⟩
    have n1_ : Aside0 (w16.heap[gb370]? = some (.cells #[.bool a2_0, .bool a2_1] 50 (0, 0))) := ⟨h1_⟩
    have n2_ : Aside0 (w16.heap[gb376]? = some (.cells #[.bool false, .int .i64 0] 24 (0, 0))) := ⟨h2_⟩
    have n3_ : Aside0 (w.heap.size ≤ gb376) := ⟨h3_⟩
    have n4_ : Aside0 (w.heap.size ≤ gb376) := ⟨h4_⟩
    have n5_ : Aside0 (gb369 ≠ gb376) := ⟨h5_⟩
    have n6_ : Aside0 (gb376 ≠ gb369) := ⟨h6_⟩
    have n7_ : Aside0 (gb370 ≠ gb376) := ⟨h7_⟩
    have n8_ : Aside0 (gb376 ≠ gb370) := ⟨h8_⟩
    have n9_ : Aside0 (Below w.heap.size w w16) := ⟨h9_⟩
    clear BK369
    clear BK370
    clear HB
    clear h0_ h1_ h2_ h3_ h4_ h5_ h6_ h7_ h8_ h9_
    have BK369 := n0_
    have BK370 := n1_
    have BK376 := n2_
    have GW376 := n3_
    have GE376 := n4_
    have NB369_376 := n5_
    have NB376_369 := n6_
    have NB370_376 := n7_
    have NB376_370 := n8_
    have HB := n9_
    clear n0_ n1_ n2_ n3_ n4_ n5_ n6_ n7_ n8_ n9_
    have hHeld : w16.cell? ⟨gb370, 0, none⟩ = some (.bool a2_0) ∧ w16.cell? ⟨gb370, 1, none⟩ = some (.bool a2_1) := hS_
    refine norm_ (a' := ?_) ?_ ?_
    rotate_left
    ·
     simp only [putAll, Act.put, List.setIfInBounds_toArray, List.set_cons_zero, List.set_cons_succ]
     rfl
    refine one_ (i := 8) (N := some 9) #[true, true, true, true, true, true, true, true, true, true, false, false] rfl rfl (one_of HT_.out (by kernel_rfl)) (by decide) (fun K hK => ?_)
    refine box_step ?hg (N := 9) ?hd (cs := #[.bool false, .int .i64 0]) (t := 24) ?hr ?_; (case hd => rfl); (case hg => rfl); (case hr => first | (go_simp; done) | (go_simp; rfl))
    intro gb375 hg w17 hbox hb
    have BK375 := Aside0.mk (hbox)
    have GW375 := geb hg HB rfl
    have GE375 := geb hg HB rfl
    have NB369_375 := nbl hg BK369 rfl
    have NB375_369 := nbr hg BK369 rfl
    have NB370_375 := nbl hg BK370 rfl
    have NB375_370 := nbr hg BK370 rfl
    have NB376_375 := nbl hg BK376 rfl
    have NB375_376 := nbr hg BK376 rfl
    replace BK369 := bb BK369 hb rfl; replace BK370 := bb BK370 hb rfl; replace BK376 := bb BK376 hb rfl; replace HB := hst HB hb rfl
    clear hb hbox hg
    refine hK.out _ _ ⟨bc BK370 0 rfl, bc BK370 1 rfl⟩ (fun hHeld => ?_)
    clear hK K
    refine norm_ (a' := ?_) ?_ ?_
    rotate_left; · (show Act.put _ (some 9) _ = _; simp only [Act.put, List.setIfInBounds_toArray, List.set_cons_zero, List.set_cons_succ, i64_w, i32_w]; rfl)
    exact norm_ (by first | (simp only [putAll, Act.put, List.setIfInBounds_toArray, List.set_cons_zero, List.set_cons_succ]; done) | (simp only [putAll, Act.put, List.setIfInBounds_toArray, List.set_cons_zero, List.set_cons_succ]; rfl)) (hJ3_7_8_9 (gb375, gb376) _ ⟨hHeld, BK369.out, BK370.out, BK375.out, BK376.out, GW375.out, GE375.out, NB369_375.out, NB375_369.out, NB370_375.out, NB375_370.out, NB376_375.out, NB375_376.out, GW376.out, GE376.out, NB369_376.out, NB376_369.out, NB370_376.out, NB376_370.out, (by repeat (first | (with_reducible first | exact HB.out | apply below_alloc | apply pw_below_drewN | apply below_drew1 | refine below_set ?_ GE369.out | refine below_set ?_ GE370.out | refine below_set ?_ GE376.out | refine below_set ?_ GE375.out) | exact HB.out))⟩)
  ·
   skip
   rintro gb375 w16 ⟨hS_, h0_, h1_, h2_, h3_, h4_, h5_, h6_, h7_, h8_, h9_⟩
   have n0_ : Aside0 (w16.heap[gb369]? = some (.cells #[.int .i64 a1_0, .int .i64 a1_1] 49 (0, 0))) := ⟨h0_⟩
   have n1_ : Aside0 (w16.heap[gb370]? = some (.cells #[.bool a2_0, .bool a2_1] 50 (0, 0))) := ⟨h1_⟩
   have n2_ : Aside0 (w16.heap[gb375]? = some (.cells #[.bool false, .int .i64 0] 24 (0, 0))) := ⟨h2_⟩
   have n3_ : Aside0 (w.heap.size ≤ gb375) := ⟨h3_⟩
   have n4_ : Aside0 (w.heap.size ≤ gb375) := ⟨h4_⟩
   have n5_ : Aside0 (gb369 ≠ gb375) := ⟨h5_⟩
   have n6_ : Aside0 (gb375 ≠ gb369) := ⟨h6_⟩
   have n7_ : Aside0 (gb370 ≠ gb375) := ⟨h7_⟩
   have n8_ : Aside0 (gb375 ≠ gb370) := ⟨h8_⟩
   have n9_ : Aside0 (Below w.heap.size w w16) := ⟨h9_⟩
   clear BK369
   clear BK370
   clear HB
   clear h0_ h1_ h2_ h3_ h4_ h5_ h6_ h7_ h8_ h9_
   have BK369 := n0_
   have BK370 := n1_
   have BK375 := n2_
   have GW375 := n3_
   have GE375 := n4_
   have NB369_375 := n5_
   have NB375_369 := n6_
   have NB370_375 := n7_
   have NB375_370 := n8_
   have HB := n9_
   clear n0_ n1_ n2_ n3_ n4_ n5_ n6_ n7_ n8_ n9_
   have hHeld : w16.cell? ⟨gb370, 0, none⟩ = some (.bool a2_0) ∧ w16.cell? ⟨gb370, 1, none⟩ = some (.bool a2_1) := hS_
   refine norm_ (a' := ?_) ?_ ?_
   rotate_left
   ·
    simp only [putAll, Act.put, List.setIfInBounds_toArray, List.set_cons_zero, List.set_cons_succ]
    rfl
   refine one_ (i := 9) (N := some 10) #[true, true, true, true, true, true, true, true, true, true, false, false] rfl rfl (one_of HT_.out (by kernel_rfl)) (by decide) (fun K hK => ?_)
   refine box_step ?hg (N := 10) ?hd (cs := #[.bool false, .int .i64 0]) (t := 24) ?hr ?_; (case hd => rfl); (case hg => rfl); (case hr => first | (go_simp; done) | (go_simp; rfl))
   intro gb376 hg w17 hbox hb
   have BK376 := Aside0.mk (hbox)
   have GW376 := geb hg HB rfl
   have GE376 := geb hg HB rfl
   have NB369_376 := nbl hg BK369 rfl
   have NB376_369 := nbr hg BK369 rfl
   have NB370_376 := nbl hg BK370 rfl
   have NB376_370 := nbr hg BK370 rfl
   have NB375_376 := nbl hg BK375 rfl
   have NB376_375 := nbr hg BK375 rfl
   replace BK369 := bb BK369 hb rfl; replace BK370 := bb BK370 hb rfl; replace BK375 := bb BK375 hb rfl; replace HB := hst HB hb rfl
   clear hb hbox hg
   refine hK.out _ _ ⟨bc BK370 0 rfl, bc BK370 1 rfl⟩ (fun hHeld => ?_)
   clear hK K
   refine norm_ (a' := ?_) ?_ ?_
   rotate_left; · (show Act.put _ (some 10) _ = _; simp only [Act.put, List.setIfInBounds_toArray, List.set_cons_zero, List.set_cons_succ, i64_w, i32_w]; rfl)
   exact norm_ (by first | (simp only [putAll, Act.put, List.setIfInBounds_toArray, List.set_cons_zero, List.set_cons_succ]; done) | (simp only [putAll, Act.put, List.setIfInBounds_toArray, List.set_cons_zero, List.set_cons_succ]; rfl)) (hJ3_7_8_9 (gb375, gb376) _ ⟨hHeld, BK369.out, BK370.out, BK375.out, BK376.out, GW375.out, GE375.out, NB369_375.out, NB375_369.out, NB370_375.out, NB375_370.out, NB376_375.out, NB375_376.out, GW376.out, GE376.out, NB369_376.out, NB376_369.out, NB370_376.out, NB376_370.out, (by repeat (first | (with_reducible first | exact HB.out | apply below_alloc | apply pw_below_drewN | apply below_drew1 | refine below_set ?_ GE369.out | refine below_set ?_ GE370.out | refine below_set ?_ GE375.out | refine below_set ?_ GE376.out) | exact HB.out))⟩)
 rintro ⟨gb375, gb376⟩ w17 ⟨hS_, h0_, h1_, h2_, h3_, h4_, h5_, h6_, h7_, h8_, h9_, h10_, h11_, h12_, h13_, h14_, h15_, h16_, h17_, h18_⟩
 have n0_ : Aside0 (w17.heap[gb369]? = some (.cells #[.int .i64 a1_0, .int .i64 a1_1] 49 (0, 0))) := ⟨h0_⟩
 have n1_ : Aside0 (w17.heap[gb370]? = some (.cells #[.bool a2_0, .bool a2_1] 50 (0, 0))) := ⟨h1_⟩
 have n2_ : Aside0 (w17.heap[gb375]? = some (.cells #[.bool false, .int .i64 0] 24 (0, 0))) := ⟨h2_⟩
 have n3_ : Aside0 (w17.heap[gb376]? = some (.cells #[.bool false, .int .i64 0] 24 (0, 0))) := ⟨h3_⟩
 have n4_ : Aside0 (w.heap.size ≤ gb375) := ⟨h4_⟩
 have n5_ : Aside0 (w.heap.size ≤ gb375) := ⟨h5_⟩
 have n6_ : Aside0 (gb369 ≠ gb375) := ⟨h6_⟩
 have n7_ : Aside0 (gb375 ≠ gb369) := ⟨h7_⟩
 have n8_ : Aside0 (gb370 ≠ gb375) := ⟨h8_⟩
 have n9_ : Aside0 (gb375 ≠ gb370) := ⟨h9_⟩
 have n10_ : Aside0 (gb376 ≠ gb375) := ⟨h10_⟩
 have n11_ : Aside0 (gb375 ≠ gb376) := ⟨h11_⟩
 have n12_ : Aside0 (w.heap.size ≤ gb376) := ⟨h12_⟩
 have n13_ : Aside0 (w.heap.size ≤ gb376) := ⟨h13_⟩
 have n14_ : Aside0 (gb369 ≠ gb376) := ⟨h14_⟩
 have n15_ : Aside0 (gb376 ≠ gb369) := ⟨h15_⟩
 have n16_ : Aside0 (gb370 ≠ gb376) := ⟨h16_⟩
 have n17_ : Aside0 (gb376 ≠ gb370) := ⟨h17_⟩
 have n18_ : Aside0 (Below w.heap.size w w17) := ⟨h18_⟩
 clear BK369
 clear BK370
 clear HB
 clear h0_ h1_ h2_ h3_ h4_ h5_ h6_ h7_ h8_ h9_ h10_ h11_ h12_ h13_ h14_ h15_ h16_ h17_ h18_
 have BK369 := n0_
 have BK370 := n1_
 have BK375 := n2_
 have BK376 := n3_
 have GW375 := n4_
 have GE375 := n5_
 have NB369_375 := n6_
 have NB375_369 := n7_
 have NB370_375 := n8_
 have NB375_370 := n9_
 have NB376_375 := n10_
 have NB375_376 := n11_
 have GW376 := n12_
 have GE376 := n13_
 have NB369_376 := n14_
 have NB376_369 := n15_
 have NB370_376 := n16_
 have NB376_370 := n17_
 have HB := n18_
 clear n0_ n1_ n2_ n3_ n4_ n5_ n6_ n7_ n8_ n9_ n10_ n11_ n12_ n13_ n14_ n15_ n16_ n17_ n18_
 have hHeld : w17.cell? ⟨gb370, 0, none⟩ = some (.bool a2_0) ∧ w17.cell? ⟨gb370, 1, none⟩ = some (.bool a2_1) := hS_
 refine norm_ (a' := ?_) ?_ ?_
 rotate_left
 ·
  simp only [putAll, Act.put, List.setIfInBounds_toArray, List.set_cons_zero, List.set_cons_succ]
  rfl
 refine one_ (i := 10) (N := none) #[true, true, true, true, true, true, true, true, true, true, true, false] rfl rfl (one_of HT_.out (by kernel_rfl)) (by decide) (fun K hK => ?_)
 have hs18 : w17.cell? ⟨gb375, 0, none⟩ = some (.bool false) := bc BK375 0 rfl
 have hfs18 := blk_frozen BK375.out 0
 have hns18_0 := NB369_375.out
 have hns18_1 := NB370_375.out
 have hns18_3 := NB376_375.out
 have hms18_0 := NB375_369.out
 have hms18_1 := NB375_370.out
 have hms18_3 := NB375_376.out
 have hs19 : w17.cell? ⟨gb375, 1, none⟩ = some (.int .i64 0) := bc BK375 1 rfl
 have hfs19 := blk_frozen BK375.out 1
 have hns19_0 := NB369_375.out
 have hns19_1 := NB370_375.out
 have hns19_3 := NB376_375.out
 have hms19_0 := NB375_369.out
 have hms19_1 := NB375_370.out
 have hms19_3 := NB375_376.out
 refine skip_ (w1 := ?_) (by rfl) rfl ?_ ?_
 rotate_left
 ·
  go_simp
  rfl
 refine hK.out _ _ ⟨((cell_far (p := ⟨gb375, _, none⟩) NB370_375.out _).trans (((cell_far (p := ⟨gb375, _, none⟩) NB370_375.out _).trans (hHeld.1)))), ((cell_far (p := ⟨gb375, _, none⟩) NB370_375.out _).trans (((cell_far (p := ⟨gb375, _, none⟩) NB370_375.out _).trans (hHeld.2))))⟩ (fun hHeld => ?_)
 clear hK K
 refine one_ (i := 11) (N := none) #[true, true, true, true, true, true, true, true, true, true, true, true] rfl rfl (one_of HT_.out (by kernel_rfl)) (by decide) (fun K hK => ?_)
 have hs20 : w17.cell? ⟨gb376, 0, none⟩ = some (.bool false) := bc BK376 0 rfl
 have hfs20 := blk_frozen BK376.out 0
 have hns20_0 := NB369_376.out
 have hns20_1 := NB370_376.out
 have hns20_2 := NB375_376.out
 have hms20_0 := NB376_369.out
 have hms20_1 := NB376_370.out
 have hms20_2 := NB376_375.out
 have hs21 : w17.cell? ⟨gb376, 1, none⟩ = some (.int .i64 0) := bc BK376 1 rfl
 have hfs21 := blk_frozen BK376.out 1
 have hns21_0 := NB369_376.out
 have hns21_1 := NB370_376.out
 have hns21_2 := NB375_376.out
 have hms21_0 := NB376_369.out
 have hms21_1 := NB376_370.out
 have hms21_2 := NB376_375.out
 refine skip_ (w1 := ?_) (by rfl) rfl ?_ ?_
 rotate_left
 ·
  go_simp
  rfl
 refine hK.out _ _ ⟨((cell_far (p := ⟨gb376, _, none⟩) NB370_376.out _).trans (((cell_far (p := ⟨gb376, _, none⟩) NB370_376.out _).trans (hHeld.1)))), ((cell_far (p := ⟨gb376, _, none⟩) NB370_376.out _).trans (((cell_far (p := ⟨gb376, _, none⟩) NB370_376.out _).trans (hHeld.2))))⟩ (fun hHeld => ?_)
 clear hK K
 refine done_ (done_of HT_.out (by kernel_rfl)) ?_
 go_upto_region 5 with (first | ((with_reducible refine gate_callee (f := 34) rfl ?_); refine goesL_ (some 35) rfl rfl Try.func34 (by kernel_rfl) rfl #[.int .i64 a0, .int .i64 a1_0, .int .i64 a1_1] rfl (mapq rfl) ?_; (with_reducible refine (avermentref07_Arith.calls a0 a1_0 a1_1 t377 t378 _ A6.out).mono ?_); rintro e w' ⟨rfl, ⟨nd, rfl⟩⟩; refine ⟨_, rfl, ?_⟩; have hnb22 := NB375_369.out; have hnc22 := NB369_375.out; have hnb23 := NB375_370.out; have hnc23 := NB370_375.out; have hnb24 := NB375_376.out; have hnc24 := NB376_375.out; have hcz25_0 : w17.cell? ⟨gb375, 0, none⟩ = some (.bool false) := (blk_cell BK375.out 0).trans rfl; have hcz25_1 : w17.cell? ⟨gb375, 1, none⟩ = some (.int .i64 0) := (blk_cell BK375.out 1).trans rfl; have hfz25_0 := blk_frozen BK375.out 0; have hfz25_1 := blk_frozen BK375.out 1; have hnb26 := NB376_369.out; have hnc26 := NB369_376.out; have hnb27 := NB376_370.out; have hnc27 := NB370_376.out; have hcz28_0 : w17.cell? ⟨gb376, 0, none⟩ = some (.bool false) := (blk_cell BK376.out 0).trans rfl; have hcz28_1 : w17.cell? ⟨gb376, 1, none⟩ = some (.int .i64 0) := (blk_cell BK376.out 1).trans rfl; have hfz28_0 := blk_frozen BK376.out 0; have hfz28_1 := blk_frozen BK376.out 1) | ((with_reducible refine gate_callee (f := 27) rfl ?_); refine goesL_ (some 42) rfl rfl Try.func27 (by kernel_rfl) rfl #[.int .i64 a0, .agg #[.bool t371, .int .i64 t372], .agg #[.bool t373, .int .i64 t374]] rfl (mapq rfl) ?_; (with_reducible refine (known_Two.calls k a0 t371 t372 t373 t374 t379 t380 t381 _ A7.out).mono ?_); rintro e w29 ⟨rfl, hb⟩; refine ⟨_, rfl, ?_⟩; replace BK369 := Aside0.mk (blk_below (g := gb369) (o := .cells #[.int .i64 a1_0, .int .i64 a1_1] 49 (0, 0)) (by (with_reducible repeat (first | refine blk_drewN ?_ _ | refine blk_drew ?_ | refine blk_alloc ?_ _)); refine blk_far ?_ NB369_376.out _; (with_reducible repeat (first | refine blk_drewN ?_ _ | refine blk_drew ?_ | refine blk_alloc ?_ _)); refine blk_far ?_ NB369_376.out _; (with_reducible repeat (first | refine blk_drewN ?_ _ | refine blk_drew ?_ | refine blk_alloc ?_ _)); refine blk_far ?_ NB369_375.out _; (with_reducible repeat (first | refine blk_drewN ?_ _ | refine blk_drew ?_ | refine blk_alloc ?_ _)); refine blk_far ?_ NB369_375.out _; (with_reducible repeat (first | refine blk_drewN ?_ _ | refine blk_drew ?_ | refine blk_alloc ?_ _)); exact BK369.out) hb); replace BK370 := Aside0.mk (blk_below (g := gb370) (o := .cells #[.bool a2_0, .bool a2_1] 50 (0, 0)) (by (with_reducible repeat (first | refine blk_drewN ?_ _ | refine blk_drew ?_ | refine blk_alloc ?_ _)); refine blk_far ?_ NB370_376.out _; (with_reducible repeat (first | refine blk_drewN ?_ _ | refine blk_drew ?_ | refine blk_alloc ?_ _)); refine blk_far ?_ NB370_376.out _; (with_reducible repeat (first | refine blk_drewN ?_ _ | refine blk_drew ?_ | refine blk_alloc ?_ _)); refine blk_far ?_ NB370_375.out _; (with_reducible repeat (first | refine blk_drewN ?_ _ | refine blk_drew ?_ | refine blk_alloc ?_ _)); refine blk_far ?_ NB370_375.out _; (with_reducible repeat (first | refine blk_drewN ?_ _ | refine blk_drew ?_ | refine blk_alloc ?_ _)); exact BK370.out) hb); replace BK375 := Aside0.mk (blk_below (g := gb375) (o := .cells #[.bool t371, .int .i64 t372] 24 (0, 0)) (by (with_reducible repeat (first | refine blk_drewN ?_ _ | refine blk_drew ?_ | refine blk_alloc ?_ _)); refine blk_far ?_ NB375_376.out _; (with_reducible repeat (first | refine blk_drewN ?_ _ | refine blk_drew ?_ | refine blk_alloc ?_ _)); refine blk_far ?_ NB375_376.out _; (with_reducible repeat (first | refine blk_drewN ?_ _ | refine blk_drew ?_ | refine blk_alloc ?_ _)); refine blk_put (cs := #[.bool t371, .int .i64 0]) ?_ 1 _ rfl; (with_reducible repeat (first | refine blk_drewN ?_ _ | refine blk_drew ?_ | refine blk_alloc ?_ _)); refine blk_put (cs := #[.bool false, .int .i64 0]) ?_ 0 _ rfl; (with_reducible repeat (first | refine blk_drewN ?_ _ | refine blk_drew ?_ | refine blk_alloc ?_ _)); exact BK375.out) hb); replace BK376 := Aside0.mk (blk_below (g := gb376) (o := .cells #[.bool t373, .int .i64 t374] 24 (0, 0)) (by (with_reducible repeat (first | refine blk_drewN ?_ _ | refine blk_drew ?_ | refine blk_alloc ?_ _)); refine blk_put (cs := #[.bool t373, .int .i64 0]) ?_ 1 _ rfl; (with_reducible repeat (first | refine blk_drewN ?_ _ | refine blk_drew ?_ | refine blk_alloc ?_ _)); refine blk_put (cs := #[.bool false, .int .i64 0]) ?_ 0 _ rfl; (with_reducible repeat (first | refine blk_drewN ?_ _ | refine blk_drew ?_ | refine blk_alloc ?_ _)); refine blk_far ?_ NB376_375.out _; (with_reducible repeat (first | refine blk_drewN ?_ _ | refine blk_drew ?_ | refine blk_alloc ?_ _)); refine blk_far ?_ NB376_375.out _; (with_reducible repeat (first | refine blk_drewN ?_ _ | refine blk_drew ?_ | refine blk_alloc ?_ _)); exact BK376.out) hb); replace HB := Aside0.mk (below_step (by repeat (first | (with_reducible first | exact HB.out | apply below_alloc | apply pw_below_drewN | apply below_drew1 | refine below_set ?_ GE369.out | refine below_set ?_ GE370.out | refine below_set ?_ GE375.out | refine below_set ?_ GE376.out) | exact HB.out)) hb); (try clear hb)) | ((with_reducible refine gate_dst (N := 13) rfl ?_); refine box_event ?hg (N := 13) ?hd (cs := #[.bool false, .int .i64 0]) (t := 24) ?hr ?_; (case hd => rfl); (case hg => rfl); (case hr => first | (go_simp; done) | (go_simp; rfl)); intro gb382 hg w30 hbox hb; have BK382 := Aside0.mk (hbox); have GW382 := geb hg HB rfl; have GE382 := geb hg HB rfl; have NB369_382 := nbl hg BK369 rfl; have NB382_369 := nbr hg BK369 rfl; have NB370_382 := nbl hg BK370 rfl; have NB382_370 := nbr hg BK370 rfl; have NB375_382 := nbl hg BK375 rfl; have NB382_375 := nbr hg BK375 rfl; have NB376_382 := nbl hg BK376 rfl; have NB382_376 := nbr hg BK376 rfl; replace BK369 := bb BK369 hb rfl; replace BK370 := bb BK370 hb rfl; replace BK375 := bb BK375 hb rfl; replace BK376 := bb BK376 hb rfl; replace HB := hst HB hb rfl; clear hb hbox hg; have hnb31 := NB382_369.out; have hnc31 := NB369_382.out; have hnb32 := NB382_370.out; have hnc32 := NB370_382.out; have hnb33 := NB382_375.out; have hnc33 := NB375_382.out; have hnb34 := NB382_376.out; have hnc34 := NB376_382.out; have hcz35_0 : w30.cell? ⟨gb382, 0, none⟩ = some (.bool false) := (blk_cell BK382.out 0).trans rfl; have hcz35_1 : w30.cell? ⟨gb382, 1, none⟩ = some (.int .i64 0) := (blk_cell BK382.out 1).trans rfl; have hfz35_0 := blk_frozen BK382.out 0; have hfz35_1 := blk_frozen BK382.out 1))
 (try simp only [Act.put, List.setIfInBounds_toArray, List.set_cons_zero, List.set_cons_succ])
 go_cut [59] (fun v59 wc => ∃ (kq : Nat) (x59_7 : Bool), v59 = .bool x59_7 ∧ Aside0 (avermentlaw09_KnownSound.j0 kq a1_0 x59_7 t371 t372 = some r) ∧ Aside0 (kq ≤ k) ∧ Aside0 (wc.heap[gb369]? = some (.cells #[.int .i64 a1_0, .int .i64 a1_1] 49 (0, 0))) ∧ Aside0 (wc.heap[gb370]? = some (.cells #[.bool a2_0, .bool a2_1] 50 (0, 0))) ∧ Aside0 (wc.heap[gb375]? = some (.cells #[.bool t371, .int .i64 t372] 24 (0, 0))) ∧ Aside0 (wc.heap[gb376]? = some (.cells #[.bool t373, .int .i64 t374] 24 (0, 0))) ∧ Aside0 (wc.heap[gb382]? = some (.cells #[.bool t379, .int .i64 t380] 24 (0, 0))) ∧ Aside0 (Below w.heap.size w wc))
 case first =>
  have H := HC8.out
  clear HC8
  replace H := Option.bind_eq_some_iff.mp H
  obtain ⟨t383, A360, H⟩ := H
  (try dsimp only at H)
  have A36 := Aside0.mk A360
  clear A360
  by_cases c37 : t383 = true
  ·
   subst c37
   rw [if_pos rfl] at H
   by_cases c38 : t378 = true
   ·
    subst c38
    rw [if_pos rfl] at H
    by_cases c39 : t381 = true
    ·
     subst c39
     rw [if_pos rfl] at H
     replace H := Option.bind_eq_some_iff.mp H
     obtain ⟨t384, A400, H⟩ := H
     (try dsimp only at H)
     have A40 := Aside0.mk A400
     clear A400
     have H' := Aside0.mk H
     clear H
     go_wp2_with (first | ((with_reducible refine gate_callee (f := 16) rfl ?_); refine goesL_ (some 45) rfl rfl Try.func16 (by kernel_rfl) rfl #[] rfl (mapq rfl) ?_; (with_reducible refine (avermentlaw09_told.calls k  true _ A36.out).mono ?_); rintro e w41 ⟨rfl, hb⟩; refine ⟨_, rfl, ?_⟩; replace BK369 := Aside0.mk (blk_below (g := gb369) (o := .cells #[.int .i64 a1_0, .int .i64 a1_1] 49 (0, 0)) (by (with_reducible repeat (first | refine blk_drewN ?_ _ | refine blk_drew ?_ | refine blk_alloc ?_ _)); refine blk_far ?_ NB369_382.out _; (with_reducible repeat (first | refine blk_drewN ?_ _ | refine blk_drew ?_ | refine blk_alloc ?_ _)); refine blk_far ?_ NB369_382.out _; (with_reducible repeat (first | refine blk_drewN ?_ _ | refine blk_drew ?_ | refine blk_alloc ?_ _)); exact BK369.out) hb); replace BK370 := Aside0.mk (blk_below (g := gb370) (o := .cells #[.bool a2_0, .bool a2_1] 50 (0, 0)) (by (with_reducible repeat (first | refine blk_drewN ?_ _ | refine blk_drew ?_ | refine blk_alloc ?_ _)); refine blk_far ?_ NB370_382.out _; (with_reducible repeat (first | refine blk_drewN ?_ _ | refine blk_drew ?_ | refine blk_alloc ?_ _)); refine blk_far ?_ NB370_382.out _; (with_reducible repeat (first | refine blk_drewN ?_ _ | refine blk_drew ?_ | refine blk_alloc ?_ _)); exact BK370.out) hb); replace BK375 := Aside0.mk (blk_below (g := gb375) (o := .cells #[.bool t371, .int .i64 t372] 24 (0, 0)) (by (with_reducible repeat (first | refine blk_drewN ?_ _ | refine blk_drew ?_ | refine blk_alloc ?_ _)); refine blk_far ?_ NB375_382.out _; (with_reducible repeat (first | refine blk_drewN ?_ _ | refine blk_drew ?_ | refine blk_alloc ?_ _)); refine blk_far ?_ NB375_382.out _; (with_reducible repeat (first | refine blk_drewN ?_ _ | refine blk_drew ?_ | refine blk_alloc ?_ _)); exact BK375.out) hb); replace BK376 := Aside0.mk (blk_below (g := gb376) (o := .cells #[.bool t373, .int .i64 t374] 24 (0, 0)) (by (with_reducible repeat (first | refine blk_drewN ?_ _ | refine blk_drew ?_ | refine blk_alloc ?_ _)); refine blk_far ?_ NB376_382.out _; (with_reducible repeat (first | refine blk_drewN ?_ _ | refine blk_drew ?_ | refine blk_alloc ?_ _)); refine blk_far ?_ NB376_382.out _; (with_reducible repeat (first | refine blk_drewN ?_ _ | refine blk_drew ?_ | refine blk_alloc ?_ _)); exact BK376.out) hb); replace BK382 := Aside0.mk (blk_below (g := gb382) (o := .cells #[.bool t379, .int .i64 t380] 24 (0, 0)) (by (with_reducible repeat (first | refine blk_drewN ?_ _ | refine blk_drew ?_ | refine blk_alloc ?_ _)); refine blk_put (cs := #[.bool t379, .int .i64 0]) ?_ 1 _ rfl; (with_reducible repeat (first | refine blk_drewN ?_ _ | refine blk_drew ?_ | refine blk_alloc ?_ _)); refine blk_put (cs := #[.bool false, .int .i64 0]) ?_ 0 _ rfl; (with_reducible repeat (first | refine blk_drewN ?_ _ | refine blk_drew ?_ | refine blk_alloc ?_ _)); exact BK382.out) hb); replace HB := Aside0.mk (below_step (by repeat (first | (with_reducible first | exact HB.out | apply below_alloc | apply pw_below_drewN | apply below_drew1 | refine below_set ?_ GE369.out | refine below_set ?_ GE370.out | refine below_set ?_ GE375.out | refine below_set ?_ GE376.out | refine below_set ?_ GE382.out) | exact HB.out)) hb); (try clear hb); have hnb42 := NB382_369.out; have hnc42 := NB369_382.out; have hnb43 := NB382_370.out; have hnc43 := NB370_382.out; have hnb44 := NB382_375.out; have hnc44 := NB375_382.out; have hnb45 := NB382_376.out; have hnc45 := NB376_382.out; have hcz46_0 : w41.cell? ⟨gb382, 0, none⟩ = some (.bool t379) := (blk_cell BK382.out 0).trans rfl; have hcz46_1 : w41.cell? ⟨gb382, 1, none⟩ = some (.int .i64 t380) := (blk_cell BK382.out 1).trans rfl; have hfz46_0 := blk_frozen BK382.out 0; have hfz46_1 := blk_frozen BK382.out 1) | (go_at_call 21; (with_reducible refine (known_Has.calls t379 t380 t377 t384 _ A40.out).mono ?_); rintro e w47 ⟨rfl, hb⟩; replace BK369 := bb BK369 hb rfl; replace BK370 := bb BK370 hb rfl; replace BK375 := bb BK375 hb rfl; replace BK376 := bb BK376 hb rfl; replace BK382 := bb BK382 hb rfl; replace HB := hst HB hb rfl; (try clear hb)))
     go_meet
     case rel => exact ⟨_, (!t384), (by first | rfl | (simp; done) | (simp [*]; done)), H', ⟨by first | omega | exact Nat.le_refl _⟩, ⟨by (with_reducible repeat (first | refine blk_drewN ?_ _ | refine blk_drew ?_ | refine blk_alloc ?_ _)); exact BK369.out⟩, ⟨by (with_reducible repeat (first | refine blk_drewN ?_ _ | refine blk_drew ?_ | refine blk_alloc ?_ _)); exact BK370.out⟩, ⟨by (with_reducible repeat (first | refine blk_drewN ?_ _ | refine blk_drew ?_ | refine blk_alloc ?_ _)); exact BK375.out⟩, ⟨by (with_reducible repeat (first | refine blk_drewN ?_ _ | refine blk_drew ?_ | refine blk_alloc ?_ _)); exact BK376.out⟩, ⟨by (with_reducible repeat (first | refine blk_drewN ?_ _ | refine blk_drew ?_ | refine blk_alloc ?_ _)); exact BK382.out⟩, ⟨by repeat (first | (with_reducible first | exact HB.out | apply below_alloc | apply pw_below_drewN | apply below_drew1 | refine below_set ?_ GE369.out | refine below_set ?_ GE370.out | refine below_set ?_ GE375.out | refine below_set ?_ GE376.out | refine below_set ?_ GE382.out) | exact HB.out)⟩⟩
    ·
     replace c39 := Bool.eq_false_iff.mpr c39
     subst c39
     rw [if_neg (show ¬ (false = true) by decide)] at H
     have H' := Aside0.mk H
     clear H
     go_wp2_with (first | ((with_reducible refine gate_callee (f := 16) rfl ?_); refine goesL_ (some 45) rfl rfl Try.func16 (by kernel_rfl) rfl #[] rfl (mapq rfl) ?_; (with_reducible refine (avermentlaw09_told.calls k  true _ A36.out).mono ?_); rintro e w48 ⟨rfl, hb⟩; refine ⟨_, rfl, ?_⟩; replace BK369 := Aside0.mk (blk_below (g := gb369) (o := .cells #[.int .i64 a1_0, .int .i64 a1_1] 49 (0, 0)) (by (with_reducible repeat (first | refine blk_drewN ?_ _ | refine blk_drew ?_ | refine blk_alloc ?_ _)); refine blk_far ?_ NB369_382.out _; (with_reducible repeat (first | refine blk_drewN ?_ _ | refine blk_drew ?_ | refine blk_alloc ?_ _)); refine blk_far ?_ NB369_382.out _; (with_reducible repeat (first | refine blk_drewN ?_ _ | refine blk_drew ?_ | refine blk_alloc ?_ _)); exact BK369.out) hb); replace BK370 := Aside0.mk (blk_below (g := gb370) (o := .cells #[.bool a2_0, .bool a2_1] 50 (0, 0)) (by (with_reducible repeat (first | refine blk_drewN ?_ _ | refine blk_drew ?_ | refine blk_alloc ?_ _)); refine blk_far ?_ NB370_382.out _; (with_reducible repeat (first | refine blk_drewN ?_ _ | refine blk_drew ?_ | refine blk_alloc ?_ _)); refine blk_far ?_ NB370_382.out _; (with_reducible repeat (first | refine blk_drewN ?_ _ | refine blk_drew ?_ | refine blk_alloc ?_ _)); exact BK370.out) hb); replace BK375 := Aside0.mk (blk_below (g := gb375) (o := .cells #[.bool t371, .int .i64 t372] 24 (0, 0)) (by (with_reducible repeat (first | refine blk_drewN ?_ _ | refine blk_drew ?_ | refine blk_alloc ?_ _)); refine blk_far ?_ NB375_382.out _; (with_reducible repeat (first | refine blk_drewN ?_ _ | refine blk_drew ?_ | refine blk_alloc ?_ _)); refine blk_far ?_ NB375_382.out _; (with_reducible repeat (first | refine blk_drewN ?_ _ | refine blk_drew ?_ | refine blk_alloc ?_ _)); exact BK375.out) hb); replace BK376 := Aside0.mk (blk_below (g := gb376) (o := .cells #[.bool t373, .int .i64 t374] 24 (0, 0)) (by (with_reducible repeat (first | refine blk_drewN ?_ _ | refine blk_drew ?_ | refine blk_alloc ?_ _)); refine blk_far ?_ NB376_382.out _; (with_reducible repeat (first | refine blk_drewN ?_ _ | refine blk_drew ?_ | refine blk_alloc ?_ _)); refine blk_far ?_ NB376_382.out _; (with_reducible repeat (first | refine blk_drewN ?_ _ | refine blk_drew ?_ | refine blk_alloc ?_ _)); exact BK376.out) hb); replace BK382 := Aside0.mk (blk_below (g := gb382) (o := .cells #[.bool t379, .int .i64 t380] 24 (0, 0)) (by (with_reducible repeat (first | refine blk_drewN ?_ _ | refine blk_drew ?_ | refine blk_alloc ?_ _)); refine blk_put (cs := #[.bool t379, .int .i64 0]) ?_ 1 _ rfl; (with_reducible repeat (first | refine blk_drewN ?_ _ | refine blk_drew ?_ | refine blk_alloc ?_ _)); refine blk_put (cs := #[.bool false, .int .i64 0]) ?_ 0 _ rfl; (with_reducible repeat (first | refine blk_drewN ?_ _ | refine blk_drew ?_ | refine blk_alloc ?_ _)); exact BK382.out) hb); replace HB := Aside0.mk (below_step (by repeat (first | (with_reducible first | exact HB.out | apply below_alloc | apply pw_below_drewN | apply below_drew1 | refine below_set ?_ GE369.out | refine below_set ?_ GE370.out | refine below_set ?_ GE375.out | refine below_set ?_ GE376.out | refine below_set ?_ GE382.out) | exact HB.out)) hb); (try clear hb)))
     go_meet
     case rel => exact ⟨_, (true), (by first | rfl | (simp; done) | (simp [*]; done)), H', ⟨by first | omega | exact Nat.le_refl _⟩, ⟨by (with_reducible repeat (first | refine blk_drewN ?_ _ | refine blk_drew ?_ | refine blk_alloc ?_ _)); exact BK369.out⟩, ⟨by (with_reducible repeat (first | refine blk_drewN ?_ _ | refine blk_drew ?_ | refine blk_alloc ?_ _)); exact BK370.out⟩, ⟨by (with_reducible repeat (first | refine blk_drewN ?_ _ | refine blk_drew ?_ | refine blk_alloc ?_ _)); exact BK375.out⟩, ⟨by (with_reducible repeat (first | refine blk_drewN ?_ _ | refine blk_drew ?_ | refine blk_alloc ?_ _)); exact BK376.out⟩, ⟨by (with_reducible repeat (first | refine blk_drewN ?_ _ | refine blk_drew ?_ | refine blk_alloc ?_ _)); exact BK382.out⟩, ⟨by repeat (first | (with_reducible first | exact HB.out | apply below_alloc | apply pw_below_drewN | apply below_drew1 | refine below_set ?_ GE369.out | refine below_set ?_ GE370.out | refine below_set ?_ GE375.out | refine below_set ?_ GE376.out | refine below_set ?_ GE382.out) | exact HB.out)⟩⟩
   ·
    replace c38 := Bool.eq_false_iff.mpr c38
    subst c38
    rw [if_neg (show ¬ (false = true) by decide)] at H
    have H' := Aside0.mk H
    clear H
    go_wp2_with (first | ((with_reducible refine gate_callee (f := 16) rfl ?_); refine goesL_ (some 45) rfl rfl Try.func16 (by kernel_rfl) rfl #[] rfl (mapq rfl) ?_; (with_reducible refine (avermentlaw09_told.calls k  true _ A36.out).mono ?_); rintro e w49 ⟨rfl, hb⟩; refine ⟨_, rfl, ?_⟩; replace BK369 := Aside0.mk (blk_below (g := gb369) (o := .cells #[.int .i64 a1_0, .int .i64 a1_1] 49 (0, 0)) (by (with_reducible repeat (first | refine blk_drewN ?_ _ | refine blk_drew ?_ | refine blk_alloc ?_ _)); refine blk_far ?_ NB369_382.out _; (with_reducible repeat (first | refine blk_drewN ?_ _ | refine blk_drew ?_ | refine blk_alloc ?_ _)); refine blk_far ?_ NB369_382.out _; (with_reducible repeat (first | refine blk_drewN ?_ _ | refine blk_drew ?_ | refine blk_alloc ?_ _)); exact BK369.out) hb); replace BK370 := Aside0.mk (blk_below (g := gb370) (o := .cells #[.bool a2_0, .bool a2_1] 50 (0, 0)) (by (with_reducible repeat (first | refine blk_drewN ?_ _ | refine blk_drew ?_ | refine blk_alloc ?_ _)); refine blk_far ?_ NB370_382.out _; (with_reducible repeat (first | refine blk_drewN ?_ _ | refine blk_drew ?_ | refine blk_alloc ?_ _)); refine blk_far ?_ NB370_382.out _; (with_reducible repeat (first | refine blk_drewN ?_ _ | refine blk_drew ?_ | refine blk_alloc ?_ _)); exact BK370.out) hb); replace BK375 := Aside0.mk (blk_below (g := gb375) (o := .cells #[.bool t371, .int .i64 t372] 24 (0, 0)) (by (with_reducible repeat (first | refine blk_drewN ?_ _ | refine blk_drew ?_ | refine blk_alloc ?_ _)); refine blk_far ?_ NB375_382.out _; (with_reducible repeat (first | refine blk_drewN ?_ _ | refine blk_drew ?_ | refine blk_alloc ?_ _)); refine blk_far ?_ NB375_382.out _; (with_reducible repeat (first | refine blk_drewN ?_ _ | refine blk_drew ?_ | refine blk_alloc ?_ _)); exact BK375.out) hb); replace BK376 := Aside0.mk (blk_below (g := gb376) (o := .cells #[.bool t373, .int .i64 t374] 24 (0, 0)) (by (with_reducible repeat (first | refine blk_drewN ?_ _ | refine blk_drew ?_ | refine blk_alloc ?_ _)); refine blk_far ?_ NB376_382.out _; (with_reducible repeat (first | refine blk_drewN ?_ _ | refine blk_drew ?_ | refine blk_alloc ?_ _)); refine blk_far ?_ NB376_382.out _; (with_reducible repeat (first | refine blk_drewN ?_ _ | refine blk_drew ?_ | refine blk_alloc ?_ _)); exact BK376.out) hb); replace BK382 := Aside0.mk (blk_below (g := gb382) (o := .cells #[.bool t379, .int .i64 t380] 24 (0, 0)) (by (with_reducible repeat (first | refine blk_drewN ?_ _ | refine blk_drew ?_ | refine blk_alloc ?_ _)); refine blk_put (cs := #[.bool t379, .int .i64 0]) ?_ 1 _ rfl; (with_reducible repeat (first | refine blk_drewN ?_ _ | refine blk_drew ?_ | refine blk_alloc ?_ _)); refine blk_put (cs := #[.bool false, .int .i64 0]) ?_ 0 _ rfl; (with_reducible repeat (first | refine blk_drewN ?_ _ | refine blk_drew ?_ | refine blk_alloc ?_ _)); exact BK382.out) hb); replace HB := Aside0.mk (below_step (by repeat (first | (with_reducible first | exact HB.out | apply below_alloc | apply pw_below_drewN | apply below_drew1 | refine below_set ?_ GE369.out | refine below_set ?_ GE370.out | refine below_set ?_ GE375.out | refine below_set ?_ GE376.out | refine below_set ?_ GE382.out) | exact HB.out)) hb); (try clear hb)))
    go_meet
    case rel => exact ⟨_, (false), (by first | rfl | (simp; done) | (simp [*]; done)), H', ⟨by first | omega | exact Nat.le_refl _⟩, ⟨by (with_reducible repeat (first | refine blk_drewN ?_ _ | refine blk_drew ?_ | refine blk_alloc ?_ _)); exact BK369.out⟩, ⟨by (with_reducible repeat (first | refine blk_drewN ?_ _ | refine blk_drew ?_ | refine blk_alloc ?_ _)); exact BK370.out⟩, ⟨by (with_reducible repeat (first | refine blk_drewN ?_ _ | refine blk_drew ?_ | refine blk_alloc ?_ _)); exact BK375.out⟩, ⟨by (with_reducible repeat (first | refine blk_drewN ?_ _ | refine blk_drew ?_ | refine blk_alloc ?_ _)); exact BK376.out⟩, ⟨by (with_reducible repeat (first | refine blk_drewN ?_ _ | refine blk_drew ?_ | refine blk_alloc ?_ _)); exact BK382.out⟩, ⟨by repeat (first | (with_reducible first | exact HB.out | apply below_alloc | apply pw_below_drewN | apply below_drew1 | refine below_set ?_ GE369.out | refine below_set ?_ GE370.out | refine below_set ?_ GE375.out | refine below_set ?_ GE376.out | refine below_set ?_ GE382.out) | exact HB.out)⟩⟩
  ·
   replace c37 := Bool.eq_false_iff.mpr c37
   subst c37
   rw [if_neg (show ¬ (false = true) by decide)] at H
   have H' := Aside0.mk H
   clear H
   go_wp2_with (first | ((with_reducible refine gate_callee (f := 16) rfl ?_); refine goesL_ (some 45) rfl rfl Try.func16 (by kernel_rfl) rfl #[] rfl (mapq rfl) ?_; (with_reducible refine (avermentlaw09_told.calls k  false _ A36.out).mono ?_); rintro e w50 ⟨rfl, hb⟩; refine ⟨_, rfl, ?_⟩; replace BK369 := Aside0.mk (blk_below (g := gb369) (o := .cells #[.int .i64 a1_0, .int .i64 a1_1] 49 (0, 0)) (by (with_reducible repeat (first | refine blk_drewN ?_ _ | refine blk_drew ?_ | refine blk_alloc ?_ _)); refine blk_far ?_ NB369_382.out _; (with_reducible repeat (first | refine blk_drewN ?_ _ | refine blk_drew ?_ | refine blk_alloc ?_ _)); refine blk_far ?_ NB369_382.out _; (with_reducible repeat (first | refine blk_drewN ?_ _ | refine blk_drew ?_ | refine blk_alloc ?_ _)); exact BK369.out) hb); replace BK370 := Aside0.mk (blk_below (g := gb370) (o := .cells #[.bool a2_0, .bool a2_1] 50 (0, 0)) (by (with_reducible repeat (first | refine blk_drewN ?_ _ | refine blk_drew ?_ | refine blk_alloc ?_ _)); refine blk_far ?_ NB370_382.out _; (with_reducible repeat (first | refine blk_drewN ?_ _ | refine blk_drew ?_ | refine blk_alloc ?_ _)); refine blk_far ?_ NB370_382.out _; (with_reducible repeat (first | refine blk_drewN ?_ _ | refine blk_drew ?_ | refine blk_alloc ?_ _)); exact BK370.out) hb); replace BK375 := Aside0.mk (blk_below (g := gb375) (o := .cells #[.bool t371, .int .i64 t372] 24 (0, 0)) (by (with_reducible repeat (first | refine blk_drewN ?_ _ | refine blk_drew ?_ | refine blk_alloc ?_ _)); refine blk_far ?_ NB375_382.out _; (with_reducible repeat (first | refine blk_drewN ?_ _ | refine blk_drew ?_ | refine blk_alloc ?_ _)); refine blk_far ?_ NB375_382.out _; (with_reducible repeat (first | refine blk_drewN ?_ _ | refine blk_drew ?_ | refine blk_alloc ?_ _)); exact BK375.out) hb); replace BK376 := Aside0.mk (blk_below (g := gb376) (o := .cells #[.bool t373, .int .i64 t374] 24 (0, 0)) (by (with_reducible repeat (first | refine blk_drewN ?_ _ | refine blk_drew ?_ | refine blk_alloc ?_ _)); refine blk_far ?_ NB376_382.out _; (with_reducible repeat (first | refine blk_drewN ?_ _ | refine blk_drew ?_ | refine blk_alloc ?_ _)); refine blk_far ?_ NB376_382.out _; (with_reducible repeat (first | refine blk_drewN ?_ _ | refine blk_drew ?_ | refine blk_alloc ?_ _)); exact BK376.out) hb); replace BK382 := Aside0.mk (blk_below (g := gb382) (o := .cells #[.bool t379, .int .i64 t380] 24 (0, 0)) (by (with_reducible repeat (first | refine blk_drewN ?_ _ | refine blk_drew ?_ | refine blk_alloc ?_ _)); refine blk_put (cs := #[.bool t379, .int .i64 0]) ?_ 1 _ rfl; (with_reducible repeat (first | refine blk_drewN ?_ _ | refine blk_drew ?_ | refine blk_alloc ?_ _)); refine blk_put (cs := #[.bool false, .int .i64 0]) ?_ 0 _ rfl; (with_reducible repeat (first | refine blk_drewN ?_ _ | refine blk_drew ?_ | refine blk_alloc ?_ _)); exact BK382.out) hb); replace HB := Aside0.mk (below_step (by repeat (first | (with_reducible first | exact HB.out | apply below_alloc | apply pw_below_drewN | apply below_drew1 | refine below_set ?_ GE369.out | refine below_set ?_ GE370.out | refine below_set ?_ GE375.out | refine below_set ?_ GE376.out | refine below_set ?_ GE382.out) | exact HB.out)) hb); (try clear hb)))
   go_meet
   case rel => exact ⟨_, (true), (by first | rfl | (simp; done) | (simp [*]; done)), H', ⟨by first | omega | exact Nat.le_refl _⟩, ⟨by (with_reducible repeat (first | refine blk_drewN ?_ _ | refine blk_drew ?_ | refine blk_alloc ?_ _)); exact BK369.out⟩, ⟨by (with_reducible repeat (first | refine blk_drewN ?_ _ | refine blk_drew ?_ | refine blk_alloc ?_ _)); exact BK370.out⟩, ⟨by (with_reducible repeat (first | refine blk_drewN ?_ _ | refine blk_drew ?_ | refine blk_alloc ?_ _)); exact BK375.out⟩, ⟨by (with_reducible repeat (first | refine blk_drewN ?_ _ | refine blk_drew ?_ | refine blk_alloc ?_ _)); exact BK376.out⟩, ⟨by (with_reducible repeat (first | refine blk_drewN ?_ _ | refine blk_drew ?_ | refine blk_alloc ?_ _)); exact BK382.out⟩, ⟨by repeat (first | (with_reducible first | exact HB.out | apply below_alloc | apply pw_below_drewN | apply below_drew1 | refine below_set ?_ GE369.out | refine below_set ?_ GE370.out | refine below_set ?_ GE375.out | refine below_set ?_ GE376.out | refine below_set ?_ GE382.out) | exact HB.out)⟩⟩
 case rest =>
  clear HC8
  try clear c1
  try clear c2
  try clear p2
  try clear c3
  try clear c4
  try clear c16
  try clear c22
  try clear c23
  try clear c24
  try clear c26
  try clear c27
  try clear c31
  try clear c32
  try clear c33
  try clear c34
  try clear c37
  try clear c38
  try clear c39
  try clear c42
  try clear c43
  try clear c44
  try clear c45
  try clear hcz25_0
  try clear hcz25_1
  try clear hcz28_0
  try clear hcz28_1
  try clear hcz35_0
  try clear hcz35_1
  try clear hcz46_0
  try clear hcz46_1
  try clear hfz25_0
  try clear hfz25_1
  try clear hfz28_0
  try clear hfz28_1
  try clear hfz35_0
  try clear hfz35_1
  try clear hfz46_0
  try clear hfz46_1
  obtain ⟨kq, x59_7, rfl, HA, HJ7, BK369, BK370, BK375, BK376, BK382, HB⟩ := hcut
  cases kq with
  | zero => exact absurd HA.out (by simp [avermentlaw09_KnownSound.j0])
  | succ kj7 =>
   have H := HA.out
   clear HA
   simp only [avermentlaw09_KnownSound.j0] at H
   by_cases c51 : x59_7 = true
   ·
    subst c51
    rw [if_pos rfl] at H
    exact absurd ((Option.some.inj H).trans hr_.out) (by decide)
   ·
    replace c51 := Bool.eq_false_iff.mpr c51
    subst c51
    rw [if_neg (show ¬ (false = true) by decide)] at H
    replace H := Option.bind_eq_some_iff.mp H
    obtain ⟨⟨t385, t386, t387⟩, A520, H⟩ := H
    (try dsimp only at H)
    have A52 := Aside0.mk A520
    clear A520
    replace H := Option.bind_eq_some_iff.mp H
    obtain ⟨⟨t388, t389, t390⟩, A530, H⟩ := H
    (try dsimp only at H)
    have A53 := Aside0.mk A530
    clear A530
    replace H := Option.bind_eq_some_iff.mp H
    obtain ⟨⟨t392, t393, t394⟩, A540, H⟩ := H
    (try dsimp only at H)
    have A54 := Aside0.mk A540
    clear A540
    by_cases c55 : t387 = true
    ·
     subst c55
     rw [if_pos rfl] at H
     replace H := Option.bind_eq_some_iff.mp H
     obtain ⟨t396, A560, H⟩ := H
     (try dsimp only at H)
     have A56 := Aside0.mk A560
     clear A560
     by_cases c57 : t396 = true
     ·
      subst c57
      rw [if_pos rfl] at H
      by_cases c58 : t390 = true
      ·
       subst c58
       rw [if_pos rfl] at H
       replace H := Option.bind_eq_some_iff.mp H
       obtain ⟨t397, A590, H⟩ := H
       (try dsimp only at H)
       have A59 := Aside0.mk A590
       clear A590
       by_cases c60 : t397 = true
       ·
        subst c60
        rw [if_pos rfl] at H
        by_cases c61 : t394 = true
        ·
         subst c61
         rw [if_pos rfl] at H
         replace H := Option.bind_eq_some_iff.mp H
         obtain ⟨t398, A620, H⟩ := H
         (try dsimp only at H)
         have A62 := Aside0.mk A620
         clear A620
         obtain rfl := Option.some.inj H
         have hnb63 := NB375_369.out
         have hnc63 := NB369_375.out
         have hnb64 := NB375_370.out
         have hnc64 := NB370_375.out
         have hnb65 := NB375_376.out
         have hnc65 := NB376_375.out
         have hnb66 := NB375_382.out
         have hnc66 := NB382_375.out
         have hcz67_0 : wc.cell? ⟨gb375, 0, none⟩ = some (.bool t371) := bc BK375 0 rfl
         have hcz67_1 : wc.cell? ⟨gb375, 1, none⟩ = some (.int .i64 t372) := bc BK375 1 rfl
         have hfz67_0 := blk_frozen BK375.out 0
         have hfz67_1 := blk_frozen BK375.out 1
         go_wp2_with (first | ((with_reducible refine gate_callee (f := 28) rfl ?_); refine goesL_ (some 62) rfl rfl Try.func28 (by kernel_rfl) rfl #[.int .i64 3, .agg #[.bool t371, .int .i64 t372]] rfl (mapq rfl) ?_; (with_reducible refine (known_One.calls 3 t371 t372 t385 t386 true _ A52.out).mono ?_); rintro e w68 ⟨rfl, hb⟩; refine ⟨_, rfl, ?_⟩; replace BK369 := bb BK369 hb rfl; replace BK370 := bb BK370 hb rfl; replace BK375 := bb BK375 hb rfl; replace BK376 := bb BK376 hb rfl; replace BK382 := bb BK382 hb rfl; replace HB := hst HB hb rfl; (try clear hb); have hnb69 := NB382_369.out; have hnc69 := NB369_382.out; have hnb70 := NB382_370.out; have hnc70 := NB370_382.out; have hnb71 := NB382_376.out; have hnc71 := NB376_382.out; have hcz72_0 : w68.cell? ⟨gb382, 0, none⟩ = some (.bool t379) := (blk_cell BK382.out 0).trans rfl; have hcz72_1 : w68.cell? ⟨gb382, 1, none⟩ = some (.int .i64 t380) := (blk_cell BK382.out 1).trans rfl; have hfz72_0 := blk_frozen BK382.out 0; have hfz72_1 := blk_frozen BK382.out 1; have hcz73_0 : w68.cell? ⟨gb375, 0, none⟩ = some (.bool t371) := (blk_cell BK375.out 0).trans rfl; have hcz73_1 : w68.cell? ⟨gb375, 1, none⟩ = some (.int .i64 t372) := (blk_cell BK375.out 1).trans rfl; have hfz73_0 := blk_frozen BK375.out 0; have hfz73_1 := blk_frozen BK375.out 1) | ((with_reducible refine gate_callee (f := 28) rfl ?_); refine goesL_ (some 67) rfl rfl Try.func28 (by kernel_rfl) rfl #[.int .i64 2, .agg #[.bool t371, .int .i64 t372]] rfl (mapq rfl) ?_; (with_reducible refine (known_One.calls 2 t371 t372 t388 t389 true _ A53.out).mono ?_); rintro e w74 ⟨rfl, hb⟩; refine ⟨_, rfl, ?_⟩; replace BK369 := Aside0.mk (blk_below (g := gb369) (o := .cells #[.int .i64 a1_0, .int .i64 a1_1] 49 (0, 0)) (by (with_reducible repeat (first | refine blk_drewN ?_ _ | refine blk_drew ?_ | refine blk_alloc ?_ _)); refine blk_far ?_ NB369_382.out _; (with_reducible repeat (first | refine blk_drewN ?_ _ | refine blk_drew ?_ | refine blk_alloc ?_ _)); refine blk_far ?_ NB369_382.out _; (with_reducible repeat (first | refine blk_drewN ?_ _ | refine blk_drew ?_ | refine blk_alloc ?_ _)); exact BK369.out) hb); replace BK370 := Aside0.mk (blk_below (g := gb370) (o := .cells #[.bool a2_0, .bool a2_1] 50 (0, 0)) (by (with_reducible repeat (first | refine blk_drewN ?_ _ | refine blk_drew ?_ | refine blk_alloc ?_ _)); refine blk_far ?_ NB370_382.out _; (with_reducible repeat (first | refine blk_drewN ?_ _ | refine blk_drew ?_ | refine blk_alloc ?_ _)); refine blk_far ?_ NB370_382.out _; (with_reducible repeat (first | refine blk_drewN ?_ _ | refine blk_drew ?_ | refine blk_alloc ?_ _)); exact BK370.out) hb); replace BK375 := Aside0.mk (blk_below (g := gb375) (o := .cells #[.bool t371, .int .i64 t372] 24 (0, 0)) (by (with_reducible repeat (first | refine blk_drewN ?_ _ | refine blk_drew ?_ | refine blk_alloc ?_ _)); refine blk_far ?_ NB375_382.out _; (with_reducible repeat (first | refine blk_drewN ?_ _ | refine blk_drew ?_ | refine blk_alloc ?_ _)); refine blk_far ?_ NB375_382.out _; (with_reducible repeat (first | refine blk_drewN ?_ _ | refine blk_drew ?_ | refine blk_alloc ?_ _)); exact BK375.out) hb); replace BK376 := Aside0.mk (blk_below (g := gb376) (o := .cells #[.bool t373, .int .i64 t374] 24 (0, 0)) (by (with_reducible repeat (first | refine blk_drewN ?_ _ | refine blk_drew ?_ | refine blk_alloc ?_ _)); refine blk_far ?_ NB376_382.out _; (with_reducible repeat (first | refine blk_drewN ?_ _ | refine blk_drew ?_ | refine blk_alloc ?_ _)); refine blk_far ?_ NB376_382.out _; (with_reducible repeat (first | refine blk_drewN ?_ _ | refine blk_drew ?_ | refine blk_alloc ?_ _)); exact BK376.out) hb); replace BK382 := Aside0.mk (blk_below (g := gb382) (o := .cells #[.bool t385, .int .i64 t386] 24 (0, 0)) (by (with_reducible repeat (first | refine blk_drewN ?_ _ | refine blk_drew ?_ | refine blk_alloc ?_ _)); refine blk_put (cs := #[.bool t385, .int .i64 t380]) ?_ 1 _ rfl; (with_reducible repeat (first | refine blk_drewN ?_ _ | refine blk_drew ?_ | refine blk_alloc ?_ _)); refine blk_put (cs := #[.bool t379, .int .i64 t380]) ?_ 0 _ rfl; (with_reducible repeat (first | refine blk_drewN ?_ _ | refine blk_drew ?_ | refine blk_alloc ?_ _)); exact BK382.out) hb); replace HB := Aside0.mk (below_step (by repeat (first | (with_reducible first | exact HB.out | apply below_alloc | apply pw_below_drewN | apply below_drew1 | refine below_set ?_ GE369.out | refine below_set ?_ GE370.out | refine below_set ?_ GE375.out | refine below_set ?_ GE376.out | refine below_set ?_ GE382.out) | exact HB.out)) hb); (try clear hb)) | ((with_reducible refine gate_dst (N := 15) rfl ?_); refine box_event ?hg (N := 15) ?hd (cs := #[.bool false, .int .i64 0]) (t := 24) ?hr ?_; (case hd => rfl); (case hg => rfl); (case hr => first | (go_simp; done) | (go_simp; rfl)); intro gb391 hg w75 hbox hb; have BK391 := Aside0.mk (hbox); have GW391 := geb hg HB rfl; have GE391 := geb hg HB rfl; have NB369_391 := nbl hg BK369 rfl; have NB391_369 := nbr hg BK369 rfl; have NB370_391 := nbl hg BK370 rfl; have NB391_370 := nbr hg BK370 rfl; have NB375_391 := nbl hg BK375 rfl; have NB391_375 := nbr hg BK375 rfl; have NB376_391 := nbl hg BK376 rfl; have NB391_376 := nbr hg BK376 rfl; have NB382_391 := nbl hg BK382 rfl; have NB391_382 := nbr hg BK382 rfl; replace BK369 := bb BK369 hb rfl; replace BK370 := bb BK370 hb rfl; replace BK375 := bb BK375 hb rfl; replace BK376 := bb BK376 hb rfl; replace BK382 := bb BK382 hb rfl; replace HB := hst HB hb rfl; clear hb hbox hg; have hnb76 := NB391_369.out; have hnc76 := NB369_391.out; have hnb77 := NB391_370.out; have hnc77 := NB370_391.out; have hnb78 := NB391_375.out; have hnc78 := NB375_391.out; have hnb79 := NB391_376.out; have hnc79 := NB376_391.out; have hnb80 := NB391_382.out; have hnc80 := NB382_391.out; have hcz81_0 : w75.cell? ⟨gb391, 0, none⟩ = some (.bool false) := (blk_cell BK391.out 0).trans rfl; have hcz81_1 : w75.cell? ⟨gb391, 1, none⟩ = some (.int .i64 0) := (blk_cell BK391.out 1).trans rfl; have hfz81_0 := blk_frozen BK391.out 0; have hfz81_1 := blk_frozen BK391.out 1; have hcz82_0 : w75.cell? ⟨gb375, 0, none⟩ = some (.bool t371) := (blk_cell BK375.out 0).trans rfl; have hcz82_1 : w75.cell? ⟨gb375, 1, none⟩ = some (.int .i64 t372) := (blk_cell BK375.out 1).trans rfl; have hfz82_0 := blk_frozen BK375.out 0; have hfz82_1 := blk_frozen BK375.out 1) | ((with_reducible refine gate_callee (f := 31) rfl ?_); refine goesL_ (some 74) rfl rfl Try.func31 (by kernel_rfl) rfl #[.agg #[.bool t371, .int .i64 t372], .bool (a1_0 != 0)] rfl (mapq rfl) ?_; (with_reducible refine (known_Branch.calls kj7 t371 t372 (a1_0 != 0) t392 t393 true _ A54.out).mono ?_); rintro e w83 ⟨rfl, hb⟩; refine ⟨_, rfl, ?_⟩; replace BK369 := Aside0.mk (blk_below (g := gb369) (o := .cells #[.int .i64 a1_0, .int .i64 a1_1] 49 (0, 0)) (by (with_reducible repeat (first | refine blk_drewN ?_ _ | refine blk_drew ?_ | refine blk_alloc ?_ _)); refine blk_far ?_ NB369_391.out _; (with_reducible repeat (first | refine blk_drewN ?_ _ | refine blk_drew ?_ | refine blk_alloc ?_ _)); refine blk_far ?_ NB369_391.out _; (with_reducible repeat (first | refine blk_drewN ?_ _ | refine blk_drew ?_ | refine blk_alloc ?_ _)); exact BK369.out) hb); replace BK370 := Aside0.mk (blk_below (g := gb370) (o := .cells #[.bool a2_0, .bool a2_1] 50 (0, 0)) (by (with_reducible repeat (first | refine blk_drewN ?_ _ | refine blk_drew ?_ | refine blk_alloc ?_ _)); refine blk_far ?_ NB370_391.out _; (with_reducible repeat (first | refine blk_drewN ?_ _ | refine blk_drew ?_ | refine blk_alloc ?_ _)); refine blk_far ?_ NB370_391.out _; (with_reducible repeat (first | refine blk_drewN ?_ _ | refine blk_drew ?_ | refine blk_alloc ?_ _)); exact BK370.out) hb); replace BK375 := Aside0.mk (blk_below (g := gb375) (o := .cells #[.bool t371, .int .i64 t372] 24 (0, 0)) (by (with_reducible repeat (first | refine blk_drewN ?_ _ | refine blk_drew ?_ | refine blk_alloc ?_ _)); refine blk_far ?_ NB375_391.out _; (with_reducible repeat (first | refine blk_drewN ?_ _ | refine blk_drew ?_ | refine blk_alloc ?_ _)); refine blk_far ?_ NB375_391.out _; (with_reducible repeat (first | refine blk_drewN ?_ _ | refine blk_drew ?_ | refine blk_alloc ?_ _)); exact BK375.out) hb); replace BK376 := Aside0.mk (blk_below (g := gb376) (o := .cells #[.bool t373, .int .i64 t374] 24 (0, 0)) (by (with_reducible repeat (first | refine blk_drewN ?_ _ | refine blk_drew ?_ | refine blk_alloc ?_ _)); refine blk_far ?_ NB376_391.out _; (with_reducible repeat (first | refine blk_drewN ?_ _ | refine blk_drew ?_ | refine blk_alloc ?_ _)); refine blk_far ?_ NB376_391.out _; (with_reducible repeat (first | refine blk_drewN ?_ _ | refine blk_drew ?_ | refine blk_alloc ?_ _)); exact BK376.out) hb); replace BK382 := Aside0.mk (blk_below (g := gb382) (o := .cells #[.bool t385, .int .i64 t386] 24 (0, 0)) (by (with_reducible repeat (first | refine blk_drewN ?_ _ | refine blk_drew ?_ | refine blk_alloc ?_ _)); refine blk_far ?_ NB382_391.out _; (with_reducible repeat (first | refine blk_drewN ?_ _ | refine blk_drew ?_ | refine blk_alloc ?_ _)); refine blk_far ?_ NB382_391.out _; (with_reducible repeat (first | refine blk_drewN ?_ _ | refine blk_drew ?_ | refine blk_alloc ?_ _)); exact BK382.out) hb); replace BK391 := Aside0.mk (blk_below (g := gb391) (o := .cells #[.bool t388, .int .i64 t389] 24 (0, 0)) (by (with_reducible repeat (first | refine blk_drewN ?_ _ | refine blk_drew ?_ | refine blk_alloc ?_ _)); refine blk_put (cs := #[.bool t388, .int .i64 0]) ?_ 1 _ rfl; (with_reducible repeat (first | refine blk_drewN ?_ _ | refine blk_drew ?_ | refine blk_alloc ?_ _)); refine blk_put (cs := #[.bool false, .int .i64 0]) ?_ 0 _ rfl; (with_reducible repeat (first | refine blk_drewN ?_ _ | refine blk_drew ?_ | refine blk_alloc ?_ _)); exact BK391.out) hb); replace HB := Aside0.mk (below_step (by repeat (first | (with_reducible first | exact HB.out | apply below_alloc | apply pw_below_drewN | apply below_drew1 | refine below_set ?_ GE369.out | refine below_set ?_ GE370.out | refine below_set ?_ GE375.out | refine below_set ?_ GE376.out | refine below_set ?_ GE382.out | refine below_set ?_ GE391.out) | exact HB.out)) hb); (try clear hb)) | ((with_reducible refine gate_dst (N := 17) rfl ?_); refine box_event ?hg (N := 17) ?hd (cs := #[.bool false, .int .i64 0]) (t := 24) ?hr ?_; (case hd => rfl); (case hg => rfl); (case hr => first | (go_simp; done) | (go_simp; rfl)); intro gb395 hg w84 hbox hb; have BK395 := Aside0.mk (hbox); have GW395 := geb hg HB rfl; have GE395 := geb hg HB rfl; have NB369_395 := nbl hg BK369 rfl; have NB395_369 := nbr hg BK369 rfl; have NB370_395 := nbl hg BK370 rfl; have NB395_370 := nbr hg BK370 rfl; have NB375_395 := nbl hg BK375 rfl; have NB395_375 := nbr hg BK375 rfl; have NB376_395 := nbl hg BK376 rfl; have NB395_376 := nbr hg BK376 rfl; have NB382_395 := nbl hg BK382 rfl; have NB395_382 := nbr hg BK382 rfl; have NB391_395 := nbl hg BK391 rfl; have NB395_391 := nbr hg BK391 rfl; replace BK369 := bb BK369 hb rfl; replace BK370 := bb BK370 hb rfl; replace BK375 := bb BK375 hb rfl; replace BK376 := bb BK376 hb rfl; replace BK382 := bb BK382 hb rfl; replace BK391 := bb BK391 hb rfl; replace HB := hst HB hb rfl; clear hb hbox hg; have hnb85 := NB395_369.out; have hnc85 := NB369_395.out; have hnb86 := NB395_370.out; have hnc86 := NB370_395.out; have hnb87 := NB395_375.out; have hnc87 := NB375_395.out; have hnb88 := NB395_376.out; have hnc88 := NB376_395.out; have hnb89 := NB395_382.out; have hnc89 := NB382_395.out; have hnb90 := NB395_391.out; have hnc90 := NB391_395.out; have hcz91_0 : w84.cell? ⟨gb395, 0, none⟩ = some (.bool false) := (blk_cell BK395.out 0).trans rfl; have hcz91_1 : w84.cell? ⟨gb395, 1, none⟩ = some (.int .i64 0) := (blk_cell BK395.out 1).trans rfl; have hfz91_0 := blk_frozen BK395.out 0; have hfz91_1 := blk_frozen BK395.out 1; have hcz92_0 : w84.cell? ⟨gb382, 0, none⟩ = some (.bool t385) := (blk_cell BK382.out 0).trans rfl; have hcz92_1 : w84.cell? ⟨gb382, 1, none⟩ = some (.int .i64 t386) := (blk_cell BK382.out 1).trans rfl; have hfz92_0 := blk_frozen BK382.out 0; have hfz92_1 := blk_frozen BK382.out 1) | (go_at_call 21; (with_reducible refine (known_Has.calls t385 t386 (wrap64 (-a1_0)) true _ A56.out).mono ?_); rintro e w93 ⟨rfl, hb⟩; replace BK369 := Aside0.mk (blk_below (g := gb369) (o := .cells #[.int .i64 a1_0, .int .i64 a1_1] 49 (0, 0)) (by (with_reducible repeat (first | refine blk_drewN ?_ _ | refine blk_drew ?_ | refine blk_alloc ?_ _)); refine blk_far ?_ NB369_395.out _; (with_reducible repeat (first | refine blk_drewN ?_ _ | refine blk_drew ?_ | refine blk_alloc ?_ _)); refine blk_far ?_ NB369_395.out _; (with_reducible repeat (first | refine blk_drewN ?_ _ | refine blk_drew ?_ | refine blk_alloc ?_ _)); exact BK369.out) hb); replace BK370 := Aside0.mk (blk_below (g := gb370) (o := .cells #[.bool a2_0, .bool a2_1] 50 (0, 0)) (by (with_reducible repeat (first | refine blk_drewN ?_ _ | refine blk_drew ?_ | refine blk_alloc ?_ _)); refine blk_far ?_ NB370_395.out _; (with_reducible repeat (first | refine blk_drewN ?_ _ | refine blk_drew ?_ | refine blk_alloc ?_ _)); refine blk_far ?_ NB370_395.out _; (with_reducible repeat (first | refine blk_drewN ?_ _ | refine blk_drew ?_ | refine blk_alloc ?_ _)); exact BK370.out) hb); replace BK375 := Aside0.mk (blk_below (g := gb375) (o := .cells #[.bool t371, .int .i64 t372] 24 (0, 0)) (by (with_reducible repeat (first | refine blk_drewN ?_ _ | refine blk_drew ?_ | refine blk_alloc ?_ _)); refine blk_far ?_ NB375_395.out _; (with_reducible repeat (first | refine blk_drewN ?_ _ | refine blk_drew ?_ | refine blk_alloc ?_ _)); refine blk_far ?_ NB375_395.out _; (with_reducible repeat (first | refine blk_drewN ?_ _ | refine blk_drew ?_ | refine blk_alloc ?_ _)); exact BK375.out) hb); replace BK376 := Aside0.mk (blk_below (g := gb376) (o := .cells #[.bool t373, .int .i64 t374] 24 (0, 0)) (by (with_reducible repeat (first | refine blk_drewN ?_ _ | refine blk_drew ?_ | refine blk_alloc ?_ _)); refine blk_far ?_ NB376_395.out _; (with_reducible repeat (first | refine blk_drewN ?_ _ | refine blk_drew ?_ | refine blk_alloc ?_ _)); refine blk_far ?_ NB376_395.out _; (with_reducible repeat (first | refine blk_drewN ?_ _ | refine blk_drew ?_ | refine blk_alloc ?_ _)); exact BK376.out) hb); replace BK382 := Aside0.mk (blk_below (g := gb382) (o := .cells #[.bool t385, .int .i64 t386] 24 (0, 0)) (by (with_reducible repeat (first | refine blk_drewN ?_ _ | refine blk_drew ?_ | refine blk_alloc ?_ _)); refine blk_far ?_ NB382_395.out _; (with_reducible repeat (first | refine blk_drewN ?_ _ | refine blk_drew ?_ | refine blk_alloc ?_ _)); refine blk_far ?_ NB382_395.out _; (with_reducible repeat (first | refine blk_drewN ?_ _ | refine blk_drew ?_ | refine blk_alloc ?_ _)); exact BK382.out) hb); replace BK391 := Aside0.mk (blk_below (g := gb391) (o := .cells #[.bool t388, .int .i64 t389] 24 (0, 0)) (by (with_reducible repeat (first | refine blk_drewN ?_ _ | refine blk_drew ?_ | refine blk_alloc ?_ _)); refine blk_far ?_ NB391_395.out _; (with_reducible repeat (first | refine blk_drewN ?_ _ | refine blk_drew ?_ | refine blk_alloc ?_ _)); refine blk_far ?_ NB391_395.out _; (with_reducible repeat (first | refine blk_drewN ?_ _ | refine blk_drew ?_ | refine blk_alloc ?_ _)); exact BK391.out) hb); replace BK395 := Aside0.mk (blk_below (g := gb395) (o := .cells #[.bool t392, .int .i64 t393] 24 (0, 0)) (by (with_reducible repeat (first | refine blk_drewN ?_ _ | refine blk_drew ?_ | refine blk_alloc ?_ _)); refine blk_put (cs := #[.bool t392, .int .i64 0]) ?_ 1 _ rfl; (with_reducible repeat (first | refine blk_drewN ?_ _ | refine blk_drew ?_ | refine blk_alloc ?_ _)); refine blk_put (cs := #[.bool false, .int .i64 0]) ?_ 0 _ rfl; (with_reducible repeat (first | refine blk_drewN ?_ _ | refine blk_drew ?_ | refine blk_alloc ?_ _)); exact BK395.out) hb); replace HB := Aside0.mk (below_step (by repeat (first | (with_reducible first | exact HB.out | apply below_alloc | apply pw_below_drewN | apply below_drew1 | refine below_set ?_ GE369.out | refine below_set ?_ GE370.out | refine below_set ?_ GE375.out | refine below_set ?_ GE376.out | refine below_set ?_ GE382.out | refine below_set ?_ GE391.out | refine below_set ?_ GE395.out) | exact HB.out)) hb); (try clear hb); have hcz94_0 : w93.cell? ⟨gb391, 0, none⟩ = some (.bool t388) := (blk_cell BK391.out 0).trans rfl; have hcz94_1 : w93.cell? ⟨gb391, 1, none⟩ = some (.int .i64 t389) := (blk_cell BK391.out 1).trans rfl; have hfz94_0 := blk_frozen BK391.out 0; have hfz94_1 := blk_frozen BK391.out 1) | (go_at_call 21; (with_reducible refine (known_Has.calls t388 t389 a1_0 true _ A59.out).mono ?_); rintro e w95 ⟨rfl, hb⟩; replace BK369 := bb BK369 hb rfl; replace BK370 := bb BK370 hb rfl; replace BK375 := bb BK375 hb rfl; replace BK376 := bb BK376 hb rfl; replace BK382 := bb BK382 hb rfl; replace BK391 := bb BK391 hb rfl; replace BK395 := bb BK395 hb rfl; replace HB := hst HB hb rfl; (try clear hb); have hcz96_0 : w95.cell? ⟨gb395, 0, none⟩ = some (.bool t392) := (blk_cell BK395.out 0).trans rfl; have hcz96_1 : w95.cell? ⟨gb395, 1, none⟩ = some (.int .i64 t393) := (blk_cell BK395.out 1).trans rfl; have hfz96_0 := blk_frozen BK395.out 0; have hfz96_1 := blk_frozen BK395.out 1) | (go_at_call 21; (with_reducible refine (known_Has.calls t392 t393 a1_0 t398 _ A62.out).mono ?_); rintro e w97 ⟨rfl, hb⟩; replace BK369 := bb BK369 hb rfl; replace BK370 := bb BK370 hb rfl; replace BK375 := bb BK375 hb rfl; replace BK376 := bb BK376 hb rfl; replace BK382 := bb BK382 hb rfl; replace BK391 := bb BK391 hb rfl; replace BK395 := bb BK395 hb rfl; replace HB := hst HB hb rfl; (try clear hb)))
         go_ret
         exact ⟨by first | rfl | (simp [errW_none, errW_some] <;> rfl) | (simp [*, errW_none, errW_some] <;> rfl), by repeat (first | (with_reducible first | exact HB.out | apply below_alloc | apply pw_below_drewN | apply below_drew1 | refine below_set ?_ GE369.out | refine below_set ?_ GE370.out | refine below_set ?_ GE375.out | refine below_set ?_ GE376.out | refine below_set ?_ GE382.out | refine below_set ?_ GE391.out | refine below_set ?_ GE395.out) | exact HB.out)⟩
        ·
         replace c61 := Bool.eq_false_iff.mpr c61
         subst c61
         rw [if_neg (show ¬ (false = true) by decide)] at H
         exact absurd ((Option.some.inj H).trans hr_.out) (by decide)
       ·
        replace c60 := Bool.eq_false_iff.mpr c60
        subst c60
        rw [if_neg (show ¬ (false = true) by decide)] at H
        exact absurd ((Option.some.inj H).trans hr_.out) (by decide)
      ·
       replace c58 := Bool.eq_false_iff.mpr c58
       subst c58
       rw [if_neg (show ¬ (false = true) by decide)] at H
       exact absurd ((Option.some.inj H).trans hr_.out) (by decide)
     ·
      replace c57 := Bool.eq_false_iff.mpr c57
      subst c57
      rw [if_neg (show ¬ (false = true) by decide)] at H
      exact absurd ((Option.some.inj H).trans hr_.out) (by decide)
    ·
     replace c55 := Bool.eq_false_iff.mpr c55
     subst c55
     rw [if_neg (show ¬ (false = true) by decide)] at H
     exact absurd ((Option.some.inj H).trans hr_.out) (by decide)

end Go.Proofs.Ytpacmhhaabhdjaa.KN
