-- Written by a program of this session: plain functions and their walks. Lean checks it.
import Derived.Test.YtpacmhhaabhdjaaKN0
import Derived.Test.YtpacmhhaabhdjaaKN1
import Derived.Test.YtpacmhhaabhdjaaKN3
import Derived.Test.YtpacmhhaabhdjaaKN5
namespace Go.Proofs.Ytpacmhhaabhdjaa.KN
open Go.RowKit Go.Proofs.YtpacmhhaabhdjaaW.PrintWords Go.Proofs.YtpacmhhaabhdjaaW.PrintLast Go.Proofs.YtpacmhhaabhdjaaW.PrintMore
attribute [local go_sem] max2_int min2_int max_two min_two max_three min_three max_four min_four   -- for this text's walks alone
set_option linter.unusedVariables false
set_option linter.unusedSimpArgs false

attribute [local go_sem high] eqA23
/-! ### avermentlaw09_KnownSets: function 3 -/
def avermentlaw09_KnownSets.j0 : Nat → Int → Bool → Bool → Int → Bool → Int → Option (Bool)
 | 0, _, _, _, _, _, _ => none
 | k + 1, x2, x50, x185000, x185001, x186000, x186001 => if x50 = true then (some false) else ((known_Of.f x2).bind fun bt204 => ((avermentlaw09_From.f bt204.1 bt204.2).bind fun bt206 => (if (bt206.1 && (bt206.2 == x2)) = true then ((known_Any.f).bind fun bt208 => ((avermentlaw09_From.f bt208.1 bt208.2).bind fun bt210 => (if (!bt210.1 && (bt210.2 == 0)) = true then ((avermentlaw09_To.f x185000 x185001).bind fun bt212 => ((known_Has.f bt212.1 bt212.2 x2).bind fun t214 => ((avermentref09_Has.f x185000 x185001 x2).bind fun t215 => (if (t214 == t215) = true then ((avermentlaw09_To.f x185000 x185001).bind fun bt216 => ((avermentlaw09_To.f x186000 x186001).bind fun bt218 => ((known_Join.f bt216.1 bt216.2 bt218.1 bt218.2).bind fun bt220 => ((avermentlaw09_From.f bt220.1 bt220.2).bind fun bt222 => ((avermentref09_Join.f x185000 x185001 x186000 x186001).bind fun bt224 => (if (bt222.1 == bt224.1 && (bt222.2 == bt224.2)) = true then ((avermentlaw09_To.f x185000 x185001).bind fun bt226 => ((avermentlaw09_To.f x186000 x186001).bind fun bt228 => ((known_Within.f bt226.1 bt226.2 bt228.1 bt228.2).bind fun t230 => ((avermentref09_Within.f x185000 x185001 x186000 x186001).bind fun t231 => (some (t230 == t231)))))) else (some false))))))) else (some false))))) else (some false)))) else (some false))))
def avermentlaw09_KnownSets.f (k : Nat) (a0_0 : Bool) (a0_1 : Int) (a1_0 : Bool) (a1_1 : Int) (a2 : Int) : Option (Bool) := (avermentlaw09_To.f a0_0 a0_1).bind fun bt186 => ((avermentlaw09_To.f a1_0 a1_1).bind fun bt188 => ((known_Meet.f bt186.1 bt186.2 bt188.1 bt188.2).bind fun bt190 => ((avermentref09_Meet.f k a0_0 a0_1 a1_0 a1_1).bind fun bt194 => ((avermentlaw09_told.f k).bind fun t198 => (if t198 = true then ((avermentlaw09_From.f bt190.1 bt190.2.1).bind fun bt199 => (if (!(bt199.1 == bt194.1) || (!(bt199.2 == bt194.2.1))) = true then (avermentlaw09_KnownSets.j0 k a2 true a0_0 a0_1 a1_0 a1_1) else (if (bt190.2.2 != bt194.2.2) = true then (avermentlaw09_KnownSets.j0 k a2 true a0_0 a0_1 a1_0 a1_1) else ((avermentlaw09_To.f a0_0 a0_1).bind fun bt201 => ((known_Right.f bt201.1 bt201.2).bind fun t203 => (if a0_0 = true then (avermentlaw09_KnownSets.j0 k a2 (t203 != true) a0_0 a0_1 a1_0 a1_1) else (avermentlaw09_KnownSets.j0 k a2 (t203 != (a0_1 == 0)) a0_0 a0_1 a1_0 a1_1))))))) else (avermentlaw09_KnownSets.j0 k a2 true a0_0 a0_1 a1_0 a1_1))))))
theorem avermentlaw09_KnownSets.mono_l : ∀ k, (∀ y0 y1 y2 y3 y4 y5, LeO (avermentlaw09_KnownSets.j0 k y0 y1 y2 y3 y4 y5) (avermentlaw09_KnownSets.j0 (k + 1) y0 y1 y2 y3 y4 y5))
 | 0 => fun _ _ _ _ _ _ r h => by simp [avermentlaw09_KnownSets.j0] at h
 | k + 1 => by
  have ih0 := avermentlaw09_KnownSets.mono_l k
  ·
   intro y0 y1 y2 y3 y4 y5
   unfold avermentlaw09_KnownSets.j0
   repeat' first
   | (with_reducible exact ih0 _ _ _ _ _ _)
   | (with_reducible exact avermentlaw09_told.mono _)
   | (with_reducible exact avermentref09_Meet.mono _ _ _ _ _)
   | (with_reducible exact LeO.refl _)
   | (with_reducible exact LeO.none _)
   | (with_reducible refine LeO.ite ?_ ?_)
   | (with_reducible refine LeO.bind ?_ (fun _ => ?_))
   | exact ih0 _ _ _ _ _ _
   | exact avermentlaw09_told.mono _
   | exact avermentref09_Meet.mono _ _ _ _ _
   | exact LeO.none _
   | refine LeO.ite ?_ ?_
   | refine LeO.bind ?_ (fun _ => ?_)
theorem avermentlaw09_KnownSets.mono : ∀ a0 a1 a2 a3 a4 k, LeO (avermentlaw09_KnownSets.f k a0 a1 a2 a3 a4) (avermentlaw09_KnownSets.f (k + 1) a0 a1 a2 a3 a4) := by
 intro a0 a1 a2 a3 a4 k
 have ih0 := avermentlaw09_KnownSets.mono_l k
 unfold avermentlaw09_KnownSets.f
 repeat' first
   | (with_reducible exact ih0 _ _ _ _ _ _)
   | (with_reducible exact avermentlaw09_told.mono _)
   | (with_reducible exact avermentref09_Meet.mono _ _ _ _ _)
   | (with_reducible exact LeO.refl _)
   | (with_reducible exact LeO.none _)
   | (with_reducible refine LeO.ite ?_ ?_)
   | (with_reducible refine LeO.bind ?_ (fun _ => ?_))
   | exact ih0 _ _ _ _ _ _
   | exact avermentlaw09_told.mono _
   | exact avermentref09_Meet.mono _ _ _ _ _
   | exact LeO.none _
   | refine LeO.ite ?_ ?_
   | refine LeO.bind ?_ (fun _ => ?_)
def avermentlaw09_KnownSets.T1 : Bool × List (List Nat × List Nat) := (true, [([], []), ([0], [0]), ([], []), ([2, 1], [2]), ([1, 3, 3], [1, 3]), ([4], [4]), ([5], [5]), ([5], [5]), ([], []), ([8, 6, 4, 0, 1, 2, 3, 4, 5, 6, 8], [6, 8]), ([7, 9, 0, 1, 2, 3, 4, 5, 6, 7, 8, 9], [7])])
def avermentlaw09_KnownSets.B1 : List Nat := [0, 1, 0, 7, 15, 31, 63, 63, 0, 383, 1023]
theorem avermentlaw09_KnownSets.tab1 : rtab .any (opsOf Try.f3 1) = avermentlaw09_KnownSets.T1 := by kernel_rfl
theorem avermentlaw09_KnownSets.bits1 : waitsOk avermentlaw09_KnownSets.T1.2 avermentlaw09_KnownSets.B1 = true := by kernel_rfl
def avermentlaw09_KnownSets.T3 : Bool × List (List Nat × List Nat) := (true, [([], []), ([0], [0]), ([1, 0], [1]), ([2], [2]), ([3, 2, 2], [2, 3]), ([2], [2]), ([4, 5, 2], [2, 4, 5]), ([2, 6], [2, 6]), ([7, 4], [7]), ([8], [8]), ([8], [8]), ([9, 10, 8], [8, 9, 10]), ([8, 11], [8, 11]), ([12, 8], [12]), ([13], [13]), ([14, 13, 13], [13, 14]), ([15, 15, 13], [13, 15]), ([13], [13]), ([17, 13], [13, 17]), ([18, 16, 13], [13, 18]), ([19], [19]), ([20, 19], [19, 20]), ([21, 19], [19, 21]), ([19, 22, 13], [13, 19, 22]), ([16, 23, 13], [13, 16, 23]), ([13, 24], [13, 24])])
def avermentlaw09_KnownSets.B3 : List Nat := [0, 1, 3, 7, 15, 7, 63, 127, 255, 511, 511, 2047, 4095, 8191, 16383, 32767, 65535, 16383, 147455, 524287, 1048575, 2097151, 4194303, 8388607, 16777215, 33554431]
theorem avermentlaw09_KnownSets.tab3 : rtab .any (opsOf Try.f3 3) = avermentlaw09_KnownSets.T3 := by kernel_rfl
theorem avermentlaw09_KnownSets.bits3 : waitsOk avermentlaw09_KnownSets.T3.2 avermentlaw09_KnownSets.B3 = true := by kernel_rfl
def avermentlaw09_KnownSets.T5 : Bool × List (List Nat × List Nat) := (true, [([], []), ([0], [0]), ([1, 1], [1]), ([], []), ([3], [3]), ([2, 4], [2, 4]), ([5, 2], [5]), ([6, 6], [6]), ([7, 7, 6], [6, 7]), ([6], [6]), ([8, 9, 6], [6, 8, 9]), ([6, 10], [6, 10]), ([11, 8], [11]), ([12], [12]), ([13, 12, 12], [12, 13]), ([12], [12]), ([14, 15, 14, 12], [12, 14, 15]), ([12], [12]), ([12], [12]), ([17, 18, 16, 12], [12, 17, 18]), ([16, 19, 12], [12, 16, 19]), ([12, 20], [12, 20]), ([21, 19], [21]), ([22], [22]), ([23, 22, 22], [22, 23]), ([22], [22]), ([25, 24, 22], [22, 25]), ([24, 26, 26, 22], [22, 24, 26]), ([27, 27, 22], [22, 27]), ([22], [22]), ([22], [22]), ([29, 30, 28, 22], [22, 29, 30]), ([28, 31, 22], [22, 28, 31]), ([22, 32], [22, 32]), ([33, 31], [33]), ([34], [34]), ([35, 34, 34], [34, 35]), ([34], [34]), ([37, 36, 34], [34, 37]), ([36, 38, 38, 34], [34, 36, 38]), ([34], [34]), ([34], [34]), ([40, 41, 39, 34], [34, 40, 41]), ([39, 42, 34], [34, 39, 42]), ([34, 43], [34, 43]), ([44, 42, 0, 1, 2, 3, 4, 5, 6, 7, 8, 9, 10, 11, 12, 13, 14, 15, 16, 17, 18, 19, 20, 21, 22, 23, 24, 25, 26, 27, 28, 29, 30, 31, 32, 33, 34, 35, 36, 37, 38, 39, 40, 41, 42, 43, 44], [44])])
def avermentlaw09_KnownSets.B5 : List Nat := [0, 1, 3, 0, 8, 31, 63, 127, 255, 127, 1023, 2047, 4095, 8191, 16383, 8191, 65535, 8191, 8191, 524287, 1048575, 2097151, 4194303, 8388607, 16777215, 8388607, 67108863, 134217727, 268435455, 8388607, 8388607, 2147483647, 4294967295, 8589934591, 17179869183, 34359738367, 68719476735, 34359738367, 274877906943, 549755813887, 34359738367, 34359738367, 4398046511103, 8796093022207, 17592186044415, 35184372088831]
theorem avermentlaw09_KnownSets.tab5 : rtab .any (opsOf Try.f3 5) = avermentlaw09_KnownSets.T5 := by kernel_rfl
theorem avermentlaw09_KnownSets.bits5 : waitsOk avermentlaw09_KnownSets.T5.2 avermentlaw09_KnownSets.B5 = true := by kernel_rfl
set_option maxHeartbeats 8000000 in
set_option maxRecDepth 100000 in
theorem avermentlaw09_KnownSets.calls (k : Nat) (a0_0 : Bool) (a0_1 : Int) (a1_0 : Bool) (a1_1 : Int) (a2 : Int) (r : Bool) (w : World) (hr_ : Aside0 (r = true)) (h : avermentlaw09_KnownSets.f k a0_0 a0_1 a1_0 a1_1 a2 = some r) :
  Calls Try.prog 3 #[.agg #[.bool a0_0, .int .i64 a0_1], .agg #[.bool a1_0, .int .i64 a1_1], .int .i64 a2] w fun e w' => e = .returned (.bool r) ∧ Below w.heap.size w w' := by
 have hu23 := Try.underlying23
 have hu24 := Try.underlying24
 have HB := Aside0.mk (Below.refl w.heap.size w)
 have H : ((avermentlaw09_To.f a0_0 a0_1).bind fun bt186 => ((avermentlaw09_To.f a1_0 a1_1).bind fun bt188 => ((known_Meet.f bt186.1 bt186.2 bt188.1 bt188.2).bind fun bt190 => ((avermentref09_Meet.f k a0_0 a0_1 a1_0 a1_1).bind fun bt194 => ((avermentlaw09_told.f k).bind fun t198 => (if t198 = true then ((avermentlaw09_From.f bt190.1 bt190.2.1).bind fun bt199 => (if (!(bt199.1 == bt194.1) || (!(bt199.2 == bt194.2.1))) = true then (avermentlaw09_KnownSets.j0 k a2 true a0_0 a0_1 a1_0 a1_1) else (if (bt190.2.2 != bt194.2.2) = true then (avermentlaw09_KnownSets.j0 k a2 true a0_0 a0_1 a1_0 a1_1) else ((avermentlaw09_To.f a0_0 a0_1).bind fun bt201 => ((known_Right.f bt201.1 bt201.2).bind fun t203 => (if a0_0 = true then (avermentlaw09_KnownSets.j0 k a2 (t203 != true) a0_0 a0_1 a1_0 a1_1) else (avermentlaw09_KnownSets.j0 k a2 (t203 != (a0_1 == 0)) a0_0 a0_1 a1_0 a1_1))))))) else (avermentlaw09_KnownSets.j0 k a2 true a0_0 a0_1 a1_0 a1_1))))))) = some r := h
 clear h
 replace H := Option.bind_eq_some_iff.mp H
 obtain ⟨⟨t186, t187⟩, A40, H⟩ := H
 (try dsimp only at H)
 have A4 := Aside0.mk A40
 clear A40
 replace H := Option.bind_eq_some_iff.mp H
 obtain ⟨⟨t188, t189⟩, A50, H⟩ := H
 (try dsimp only at H)
 have A5 := Aside0.mk A50
 clear A50
 replace H := Option.bind_eq_some_iff.mp H
 obtain ⟨⟨t190, t191, t192⟩, A60, H⟩ := H
 (try dsimp only at H)
 have A6 := Aside0.mk A60
 clear A60
 replace H := Option.bind_eq_some_iff.mp H
 obtain ⟨⟨t194, t195, t196⟩, A70, H⟩ := H
 (try dsimp only at H)
 have A7 := Aside0.mk A70
 clear A70
 have HC8 := Aside0.mk H
 clear H
 go_enter Try.func3, Try.ntmps3
 try go_wp2_with (first | ((with_reducible refine gate_dst (N := 3) rfl ?_); refine box_event ?hg (N := 3) ?hd (cs := #[.bool a0_0, .int .i64 a0_1]) (t := 23) ?hr ?_; (case hd => rfl); (case hg => rfl); (case hr => first | (go_simp; done) | (go_simp; rfl)); intro gb184 hg w9 hbox hb; have BK184 := Aside0.mk (hbox); have GW184 := geb hg HB rfl; have GE184 := geb hg HB rfl; replace HB := hst HB hb rfl; clear hb hbox hg) | ((with_reducible refine gate_dst (N := 4) rfl ?_); refine box_event ?hg (N := 4) ?hd (cs := #[.bool a1_0, .int .i64 a1_1]) (t := 23) ?hr ?_; (case hd => rfl); (case hg => rfl); (case hr => first | (go_simp; done) | (go_simp; rfl)); intro gb185 hg w10 hbox hb; have BK185 := Aside0.mk (hbox); have GW185 := geb hg HB rfl; have GE185 := geb hg HB rfl; have NB184_185 := nbl hg BK184 rfl; have NB185_184 := nbr hg BK184 rfl; replace BK184 := bb BK184 hb rfl; replace HB := hst HB hb rfl; clear hb hbox hg))
 replace BK184 := Aside0.mk (blk_drew BK184.out); replace BK185 := Aside0.mk (blk_drew BK185.out); replace HB := Aside0.mk (below_drew1 HB.out)
 refine start_ (n := 11) (S := fun w' => w'.cell? ⟨gb184, 0, none⟩ = some (.bool a0_0) ∧ w'.cell? ⟨gb184, 1, none⟩ = some (.int .i64 a0_1) ∧ w'.cell? ⟨gb185, 0, none⟩ = some (.bool a1_0) ∧ w'.cell? ⟨gb185, 1, none⟩ = some (.int .i64 a1_1)) (ds := []) #[false, false, false, false, false, false, false, false, false, false, false] (by kernel_rfl) rfl rfl ⟨bc BK184 0 rfl, bc BK184 1 rfl, bc BK185 0 rfl, bc BK185 1 rfl⟩ (fun hHeld => ?_); refine with_tabW avermentlaw09_KnownSets.tab1 avermentlaw09_KnownSets.bits1 (fun HT_ HW_ => ?_)
 generalize w10.drew = w11 at BK184 BK185 HB hHeld ⊢
 refine take_ (i := 0) (N := some 12) (v := ?_) (a' := ?_) #[true, false, false, false, false, false, false, false, false, false, false] rfl rfl (take_ofW HT_.out HW_.out (by kernel_rfl)) (fun _ _ _ h => h) (Or.inl ⟨by rfl, ?_⟩) hHeld ?_ ?_
 rotate_left
 ·
  rintro w' ⟨s0, s1, s2, s3⟩
  go_simp
  with_reducible rfl
 rotate_left
 ·
  simp only [Act.put, List.setIfInBounds_toArray, List.set_cons_zero, List.set_cons_succ, i64_w, i32_w]
  rfl
 refine take_ (i := 2) (N := some 14) (v := ?_) (a' := ?_) #[true, false, true, false, false, false, false, false, false, false, false] rfl rfl (take_ofW HT_.out HW_.out (by kernel_rfl)) (fun _ _ _ h => h) (Or.inl ⟨by rfl, ?_⟩) hHeld ?_ ?_
 rotate_left
 ·
  rintro w' ⟨s0, s1, s2, s3⟩
  go_simp
  with_reducible rfl
 rotate_left
 ·
  simp only [Act.put, List.setIfInBounds_toArray, List.set_cons_zero, List.set_cons_succ, i64_w, i32_w]
  rfl
 refine join_ (σ := Nat) 2 #[true, true, true, true, true, true, true, true, true, false, false] (fun s_ => [(13, .agg #[.bool t186, .int .i64 t187]), (15, .agg #[.bool t188, .int .i64 t189]), (16, .tuple #[.agg #[.bool t190, .int .i64 t191], .bool t192]), (7, .pointer (some ⟨s_, 0, none⟩)), (11, .tuple #[.agg #[.bool t190, .int .i64 t191], .bool t192]), (17, .agg #[.bool t190, .int .i64 t191]), (18, .bool t192)]) (fun s_ w' => (w'.cell? ⟨gb184, 0, none⟩ = some (.bool a0_0) ∧ w'.cell? ⟨gb184, 1, none⟩ = some (.int .i64 a0_1) ∧ w'.cell? ⟨gb185, 0, none⟩ = some (.bool a1_0) ∧ w'.cell? ⟨gb185, 1, none⟩ = some (.int .i64 a1_1)) ∧ (w'.heap[gb184]? = some (.cells #[.bool a0_0, .int .i64 a0_1] 23 (0, 0))) ∧ (w'.heap[gb185]? = some (.cells #[.bool a1_0, .int .i64 a1_1] 23 (0, 0))) ∧ (w'.heap[s_]? = some (.cells #[.bool false, .int .i64 0] 24 (0, 0))) ∧ (w.heap.size ≤ s_) ∧ (w.heap.size ≤ s_) ∧ (gb184 ≠ s_) ∧ (s_ ≠ gb184) ∧ (gb185 ≠ s_) ∧ (s_ ≠ gb185) ∧ (Below w.heap.size w w')) ?_ ?_
 rotate_left
 ·
  intro hCont
  refine two_ (i := 1) (j := 8) (Ni := some 13) (Nj := some 7) #[true, true, true, false, false, false, false, false, false, false, false] #[true, false, true, false, false, false, false, false, true, false, false] rfl rfl rfl rfl (two_of HT_.out (by kernel_rfl)) (by decide) (by decide) (fun K hK => ?_) (fun K hK => ?_)
  ·
   skip
   refine goes_ Try.func14 (by kernel_rfl) rfl #[.agg #[.bool a0_0, .int .i64 a0_1]] (by rfl) rfl rfl (mapq rfl) ?_
   with_reducible refine (avermentlaw09_To.calls a0_0 a0_1 t186 t187 _ A4.out).mono ?_
   rintro e w12 ⟨rfl, hb⟩
   refine ⟨_, rfl, ?_⟩
   replace BK184 := bb BK184 hb rfl; replace BK185 := bb BK185 hb rfl; replace HB := hst HB hb rfl
   (try clear hb)
   refine hK.out _ _ ⟨bc BK184 0 rfl, bc BK184 1 rfl, bc BK185 0 rfl, bc BK185 1 rfl⟩ (fun hHeld => ?_)
   clear hK K
   refine norm_ (a' := ?_) ?_ ?_
   rotate_left; · (show Act.put _ (some 13) _ = _; simp only [Act.put, List.setIfInBounds_toArray, List.set_cons_zero, List.set_cons_succ, i64_w, i32_w]; rfl)
   refine two_ (i := 3) (j := 8) (Ni := some 15) (Nj := some 7) #[true, true, true, true, false, false, false, false, false, false, false] #[true, true, true, false, false, false, false, false, true, false, false] rfl rfl rfl rfl (two_of HT_.out (by kernel_rfl)) (by decide) (by decide) (fun K hK => ?_) (fun K hK => ?_)
   ·
    skip
    refine goes_ Try.func14 (by kernel_rfl) rfl #[.agg #[.bool a1_0, .int .i64 a1_1]] (by rfl) rfl rfl (mapq rfl) ?_
    with_reducible refine (avermentlaw09_To.calls a1_0 a1_1 t188 t189 _ A5.out).mono ?_
    rintro e w13 ⟨rfl, hb⟩
    refine ⟨_, rfl, ?_⟩
    replace BK184 := bb BK184 hb rfl; replace BK185 := bb BK185 hb rfl; replace HB := hst HB hb rfl
    (try clear hb)
    refine hK.out _ _ ⟨bc BK184 0 rfl, bc BK184 1 rfl, bc BK185 0 rfl, bc BK185 1 rfl⟩ (fun hHeld => ?_)
    clear hK K
    refine norm_ (a' := ?_) ?_ ?_
    rotate_left; · (show Act.put _ (some 15) _ = _; simp only [Act.put, List.setIfInBounds_toArray, List.set_cons_zero, List.set_cons_succ, i64_w, i32_w]; rfl)
    refine two_ (i := 4) (j := 8) (Ni := some 16) (Nj := some 7) #[true, true, true, true, true, false, false, false, false, false, false] #[true, true, true, true, false, false, false, false, true, false, false] rfl rfl rfl rfl (two_of HT_.out (by kernel_rfl)) (by decide) (by decide) (fun K hK => ?_) (fun K hK => ?_)
    ·
     skip
     refine goes_ Try.func13 (by kernel_rfl) rfl #[.agg #[.bool t186, .int .i64 t187], .agg #[.bool t188, .int .i64 t189]] (by rfl) rfl rfl (mapq rfl) ?_
     with_reducible refine (known_Meet.calls t186 t187 t188 t189 t190 t191 t192 _ A6.out).mono ?_
     rintro e w14 ⟨rfl, hb⟩
     refine ⟨_, rfl, ?_⟩
     replace BK184 := bb BK184 hb rfl; replace BK185 := bb BK185 hb rfl; replace HB := hst HB hb rfl
     (try clear hb)
     refine hK.out _ _ ⟨bc BK184 0 rfl, bc BK184 1 rfl, bc BK185 0 rfl, bc BK185 1 rfl⟩ (fun hHeld => ?_)
     clear hK K
     refine norm_ (a' := ?_) ?_ ?_
     rotate_left; · (show Act.put _ (some 16) _ = _; simp only [Act.put, List.setIfInBounds_toArray, List.set_cons_zero, List.set_cons_succ, i64_w, i32_w]; rfl)
     refine pure_ (i := 5) (N := some 11) (v := ?_) (a' := ?_) #[true, true, true, true, true, true, false, false, false, false, false] rfl rfl (any_of HT_.out (by kernel_rfl)) (fun _ _ _ h => h) (Or.inl ⟨by rfl, ?_⟩) ?_ ?_
     rotate_left; · (intro w'; go_simp; with_reducible rfl)
     rotate_left; · (simp only [Act.put, List.setIfInBounds_toArray, List.set_cons_zero, List.set_cons_succ, i64_w, i32_w]; rfl)
     refine pure_ (i := 6) (N := some 17) (v := ?_) (a' := ?_) #[true, true, true, true, true, true, true, false, false, false, false] rfl rfl (any_of HT_.out (by kernel_rfl)) (fun _ _ _ h => h) (Or.inl ⟨by rfl, ?_⟩) ?_ ?_
     rotate_left; · (intro w'; go_simp; with_reducible rfl)
     rotate_left; · (simp only [Act.put, List.setIfInBounds_toArray, List.set_cons_zero, List.set_cons_succ, i64_w, i32_w]; rfl)
     refine pure_ (i := 7) (N := some 18) (v := ?_) (a' := ?_) #[true, true, true, true, true, true, true, true, false, false, false] rfl rfl (any_of HT_.out (by kernel_rfl)) (fun _ _ _ h => h) (Or.inl ⟨by rfl, ?_⟩) ?_ ?_
     rotate_left; · (intro w'; go_simp; with_reducible rfl)
     rotate_left; · (simp only [Act.put, List.setIfInBounds_toArray, List.set_cons_zero, List.set_cons_succ, i64_w, i32_w]; rfl)
     refine one_ (i := 8) (N := some 7) #[true, true, true, true, true, true, true, true, true, false, false] rfl rfl (one_of HT_.out (by kernel_rfl)) (by decide) (fun K hK => ?_)
     refine box_step ?hg (N := 7) ?hd (cs := #[.bool false, .int .i64 0]) (t := 24) ?hr ?_; (case hd => rfl); (case hg => rfl); (case hr => first | (go_simp; done) | (go_simp; rfl))
     intro gb193 hg w15 hbox hb
     have BK193 := Aside0.mk (hbox)
     have GW193 := geb hg HB rfl
     have GE193 := geb hg HB rfl
     have NB184_193 := nbl hg BK184 rfl
     have NB193_184 := nbr hg BK184 rfl
     have NB185_193 := nbl hg BK185 rfl
     have NB193_185 := nbr hg BK185 rfl
     replace BK184 := bb BK184 hb rfl; replace BK185 := bb BK185 hb rfl; replace HB := hst HB hb rfl
     clear hb hbox hg
     refine hK.out _ _ ⟨bc BK184 0 rfl, bc BK184 1 rfl, bc BK185 0 rfl, bc BK185 1 rfl⟩ (fun hHeld => ?_)
     clear hK K
     refine norm_ (a' := ?_) ?_ ?_
     rotate_left; · (show Act.put _ (some 7) _ = _; simp only [Act.put, List.setIfInBounds_toArray, List.set_cons_zero, List.set_cons_succ, i64_w, i32_w]; rfl)
     exact norm_ (by simp only [putAll, Act.put, List.setIfInBounds_toArray, List.set_cons_zero, List.set_cons_succ]) (hCont (gb193) _ ⟨hHeld, BK184.out, BK185.out, BK193.out, GW193.out, GE193.out, NB184_193.out, NB193_184.out, NB185_193.out, NB193_185.out, (by repeat (first | (with_reducible first | exact HB.out | apply below_alloc | apply pw_below_drewN | apply below_drew1 | refine below_set ?_ GE184.out | refine below_set ?_ GE185.out | refine below_set ?_ GE193.out) | exact HB.out))⟩)
    ·
     skip
     refine box_step ?hg (N := 7) ?hd (cs := #[.bool false, .int .i64 0]) (t := 24) ?hr ?_; (case hd => rfl); (case hg => rfl); (case hr => first | (go_simp; done) | (go_simp; rfl))
     intro gb193 hg w14 hbox hb
     have BK193 := Aside0.mk (hbox)
     have GW193 := geb hg HB rfl
     have GE193 := geb hg HB rfl
     have NB184_193 := nbl hg BK184 rfl
     have NB193_184 := nbr hg BK184 rfl
     have NB185_193 := nbl hg BK185 rfl
     have NB193_185 := nbr hg BK185 rfl
     replace BK184 := bb BK184 hb rfl; replace BK185 := bb BK185 hb rfl; replace HB := hst HB hb rfl
     clear hb hbox hg
     refine hK.out _ _ ⟨bc BK184 0 rfl, bc BK184 1 rfl, bc BK185 0 rfl, bc BK185 1 rfl⟩ (fun hHeld => ?_)
     clear hK K
     refine norm_ (a' := ?_) ?_ ?_
     rotate_left; · (show Act.put _ (some 7) _ = _; simp only [Act.put, List.setIfInBounds_toArray, List.set_cons_zero, List.set_cons_succ, i64_w, i32_w]; rfl)
     refine one_ (i := 4) (N := some 16) #[true, true, true, true, true, false, false, false, true, false, false] rfl rfl (one_of HT_.out (by kernel_rfl)) (by decide) (fun K hK => ?_)
     refine goes_ Try.func13 (by kernel_rfl) rfl #[.agg #[.bool t186, .int .i64 t187], .agg #[.bool t188, .int .i64 t189]] (by rfl) rfl rfl (mapq rfl) ?_
     with_reducible refine (known_Meet.calls t186 t187 t188 t189 t190 t191 t192 _ A6.out).mono ?_
     rintro e w15 ⟨rfl, hb⟩
     refine ⟨_, rfl, ?_⟩
     replace BK184 := bb BK184 hb rfl; replace BK185 := bb BK185 hb rfl; replace BK193 := bb BK193 hb rfl; replace HB := hst HB hb rfl
     (try clear hb)
     refine hK.out _ _ ⟨bc BK184 0 rfl, bc BK184 1 rfl, bc BK185 0 rfl, bc BK185 1 rfl⟩ (fun hHeld => ?_)
     clear hK K
     refine norm_ (a' := ?_) ?_ ?_
     rotate_left; · (show Act.put _ (some 16) _ = _; simp only [Act.put, List.setIfInBounds_toArray, List.set_cons_zero, List.set_cons_succ, i64_w, i32_w]; rfl)
     refine pure_ (i := 5) (N := some 11) (v := ?_) (a' := ?_) #[true, true, true, true, true, true, false, false, true, false, false] rfl rfl (any_of HT_.out (by kernel_rfl)) (fun _ _ _ h => h) (Or.inl ⟨by rfl, ?_⟩) ?_ ?_
     rotate_left; · (intro w'; go_simp; with_reducible rfl)
     rotate_left; · (simp only [Act.put, List.setIfInBounds_toArray, List.set_cons_zero, List.set_cons_succ, i64_w, i32_w]; rfl)
     refine pure_ (i := 6) (N := some 17) (v := ?_) (a' := ?_) #[true, true, true, true, true, true, true, false, true, false, false] rfl rfl (any_of HT_.out (by kernel_rfl)) (fun _ _ _ h => h) (Or.inl ⟨by rfl, ?_⟩) ?_ ?_
     rotate_left; · (intro w'; go_simp; with_reducible rfl)
     rotate_left; · (simp only [Act.put, List.setIfInBounds_toArray, List.set_cons_zero, List.set_cons_succ, i64_w, i32_w]; rfl)
     refine pure_ (i := 7) (N := some 18) (v := ?_) (a' := ?_) #[true, true, true, true, true, true, true, true, true, false, false] rfl rfl (any_of HT_.out (by kernel_rfl)) (fun _ _ _ h => h) (Or.inl ⟨by rfl, ?_⟩) ?_ ?_
     rotate_left; · (intro w'; go_simp; with_reducible rfl)
     rotate_left; · (simp only [Act.put, List.setIfInBounds_toArray, List.set_cons_zero, List.set_cons_succ, i64_w, i32_w]; rfl)
     exact norm_ (by simp only [putAll, Act.put, List.setIfInBounds_toArray, List.set_cons_zero, List.set_cons_succ]) (hCont (gb193) _ ⟨hHeld, BK184.out, BK185.out, BK193.out, GW193.out, GE193.out, NB184_193.out, NB193_184.out, NB185_193.out, NB193_185.out, (by repeat (first | (with_reducible first | exact HB.out | apply below_alloc | apply pw_below_drewN | apply below_drew1 | refine below_set ?_ GE184.out | refine below_set ?_ GE185.out | refine below_set ?_ GE193.out) | exact HB.out))⟩)
   ·
    skip
    refine box_step ?hg (N := 7) ?hd (cs := #[.bool false, .int .i64 0]) (t := 24) ?hr ?_; (case hd => rfl); (case hg => rfl); (case hr => first | (go_simp; done) | (go_simp; rfl))
    intro gb193 hg w13 hbox hb
    have BK193 := Aside0.mk (hbox)
    have GW193 := geb hg HB rfl
    have GE193 := geb hg HB rfl
    have NB184_193 := nbl hg BK184 rfl
    have NB193_184 := nbr hg BK184 rfl
    have NB185_193 := nbl hg BK185 rfl
    have NB193_185 := nbr hg BK185 rfl
    replace BK184 := bb BK184 hb rfl; replace BK185 := bb BK185 hb rfl; replace HB := hst HB hb rfl
    clear hb hbox hg
    refine hK.out _ _ ⟨bc BK184 0 rfl, bc BK184 1 rfl, bc BK185 0 rfl, bc BK185 1 rfl⟩ (fun hHeld => ?_)
    clear hK K
    refine norm_ (a' := ?_) ?_ ?_
    rotate_left; · (show Act.put _ (some 7) _ = _; simp only [Act.put, List.setIfInBounds_toArray, List.set_cons_zero, List.set_cons_succ, i64_w, i32_w]; rfl)
    refine one_ (i := 3) (N := some 15) #[true, true, true, true, false, false, false, false, true, false, false] rfl rfl (one_of HT_.out (by kernel_rfl)) (by decide) (fun K hK => ?_)
    refine goes_ Try.func14 (by kernel_rfl) rfl #[.agg #[.bool a1_0, .int .i64 a1_1]] (by rfl) rfl rfl (mapq rfl) ?_
    with_reducible refine (avermentlaw09_To.calls a1_0 a1_1 t188 t189 _ A5.out).mono ?_
    rintro e w14 ⟨rfl, hb⟩
    refine ⟨_, rfl, ?_⟩
    replace BK184 := bb BK184 hb rfl; replace BK185 := bb BK185 hb rfl; replace BK193 := bb BK193 hb rfl; replace HB := hst HB hb rfl
    (try clear hb)
    refine hK.out _ _ ⟨bc BK184 0 rfl, bc BK184 1 rfl, bc BK185 0 rfl, bc BK185 1 rfl⟩ (fun hHeld => ?_)
    clear hK K
    refine norm_ (a' := ?_) ?_ ?_
    rotate_left; · (show Act.put _ (some 15) _ = _; simp only [Act.put, List.setIfInBounds_toArray, List.set_cons_zero, List.set_cons_succ, i64_w, i32_w]; rfl)
    refine one_ (i := 4) (N := some 16) #[true, true, true, true, true, false, false, false, true, false, false] rfl rfl (one_of HT_.out (by kernel_rfl)) (by decide) (fun K hK => ?_)
    refine goes_ Try.func13 (by kernel_rfl) rfl #[.agg #[.bool t186, .int .i64 t187], .agg #[.bool t188, .int .i64 t189]] (by rfl) rfl rfl (mapq rfl) ?_
    with_reducible refine (known_Meet.calls t186 t187 t188 t189 t190 t191 t192 _ A6.out).mono ?_
    rintro e w15 ⟨rfl, hb⟩
    refine ⟨_, rfl, ?_⟩
    replace BK184 := bb BK184 hb rfl; replace BK185 := bb BK185 hb rfl; replace BK193 := bb BK193 hb rfl; replace HB := hst HB hb rfl
    (try clear hb)
    refine hK.out _ _ ⟨bc BK184 0 rfl, bc BK184 1 rfl, bc BK185 0 rfl, bc BK185 1 rfl⟩ (fun hHeld => ?_)
    clear hK K
    refine norm_ (a' := ?_) ?_ ?_
    rotate_left; · (show Act.put _ (some 16) _ = _; simp only [Act.put, List.setIfInBounds_toArray, List.set_cons_zero, List.set_cons_succ, i64_w, i32_w]; rfl)
    refine pure_ (i := 5) (N := some 11) (v := ?_) (a' := ?_) #[true, true, true, true, true, true, false, false, true, false, false] rfl rfl (any_of HT_.out (by kernel_rfl)) (fun _ _ _ h => h) (Or.inl ⟨by rfl, ?_⟩) ?_ ?_
    rotate_left; · (intro w'; go_simp; with_reducible rfl)
    rotate_left; · (simp only [Act.put, List.setIfInBounds_toArray, List.set_cons_zero, List.set_cons_succ, i64_w, i32_w]; rfl)
    refine pure_ (i := 6) (N := some 17) (v := ?_) (a' := ?_) #[true, true, true, true, true, true, true, false, true, false, false] rfl rfl (any_of HT_.out (by kernel_rfl)) (fun _ _ _ h => h) (Or.inl ⟨by rfl, ?_⟩) ?_ ?_
    rotate_left; · (intro w'; go_simp; with_reducible rfl)
    rotate_left; · (simp only [Act.put, List.setIfInBounds_toArray, List.set_cons_zero, List.set_cons_succ, i64_w, i32_w]; rfl)
    refine pure_ (i := 7) (N := some 18) (v := ?_) (a' := ?_) #[true, true, true, true, true, true, true, true, true, false, false] rfl rfl (any_of HT_.out (by kernel_rfl)) (fun _ _ _ h => h) (Or.inl ⟨by rfl, ?_⟩) ?_ ?_
    rotate_left; · (intro w'; go_simp; with_reducible rfl)
    rotate_left; · (simp only [Act.put, List.setIfInBounds_toArray, List.set_cons_zero, List.set_cons_succ, i64_w, i32_w]; rfl)
    exact norm_ (by simp only [putAll, Act.put, List.setIfInBounds_toArray, List.set_cons_zero, List.set_cons_succ]) (hCont (gb193) _ ⟨hHeld, BK184.out, BK185.out, BK193.out, GW193.out, GE193.out, NB184_193.out, NB193_184.out, NB185_193.out, NB193_185.out, (by repeat (first | (with_reducible first | exact HB.out | apply below_alloc | apply pw_below_drewN | apply below_drew1 | refine below_set ?_ GE184.out | refine below_set ?_ GE185.out | refine below_set ?_ GE193.out) | exact HB.out))⟩)
  ·
   skip
   refine box_step ?hg (N := 7) ?hd (cs := #[.bool false, .int .i64 0]) (t := 24) ?hr ?_; (case hd => rfl); (case hg => rfl); (case hr => first | (go_simp; done) | (go_simp; rfl))
   intro gb193 hg w12 hbox hb
   have BK193 := Aside0.mk (hbox)
   have GW193 := geb hg HB rfl
   have GE193 := geb hg HB rfl
   have NB184_193 := nbl hg BK184 rfl
   have NB193_184 := nbr hg BK184 rfl
   have NB185_193 := nbl hg BK185 rfl
   have NB193_185 := nbr hg BK185 rfl
   replace BK184 := bb BK184 hb rfl; replace BK185 := bb BK185 hb rfl; replace HB := hst HB hb rfl
   clear hb hbox hg
   refine hK.out _ _ ⟨bc BK184 0 rfl, bc BK184 1 rfl, bc BK185 0 rfl, bc BK185 1 rfl⟩ (fun hHeld => ?_)
   clear hK K
   refine norm_ (a' := ?_) ?_ ?_
   rotate_left; · (show Act.put _ (some 7) _ = _; simp only [Act.put, List.setIfInBounds_toArray, List.set_cons_zero, List.set_cons_succ, i64_w, i32_w]; rfl)
   refine one_ (i := 1) (N := some 13) #[true, true, true, false, false, false, false, false, true, false, false] rfl rfl (one_of HT_.out (by kernel_rfl)) (by decide) (fun K hK => ?_)
   refine goes_ Try.func14 (by kernel_rfl) rfl #[.agg #[.bool a0_0, .int .i64 a0_1]] (by rfl) rfl rfl (mapq rfl) ?_
   with_reducible refine (avermentlaw09_To.calls a0_0 a0_1 t186 t187 _ A4.out).mono ?_
   rintro e w13 ⟨rfl, hb⟩
   refine ⟨_, rfl, ?_⟩
   replace BK184 := bb BK184 hb rfl; replace BK185 := bb BK185 hb rfl; replace BK193 := bb BK193 hb rfl; replace HB := hst HB hb rfl
   (try clear hb)
   refine hK.out _ _ ⟨bc BK184 0 rfl, bc BK184 1 rfl, bc BK185 0 rfl, bc BK185 1 rfl⟩ (fun hHeld => ?_)
   clear hK K
   refine norm_ (a' := ?_) ?_ ?_
   rotate_left; · (show Act.put _ (some 13) _ = _; simp only [Act.put, List.setIfInBounds_toArray, List.set_cons_zero, List.set_cons_succ, i64_w, i32_w]; rfl)
   refine one_ (i := 3) (N := some 15) #[true, true, true, true, false, false, false, false, true, false, false] rfl rfl (one_of HT_.out (by kernel_rfl)) (by decide) (fun K hK => ?_)
   refine goes_ Try.func14 (by kernel_rfl) rfl #[.agg #[.bool a1_0, .int .i64 a1_1]] (by rfl) rfl rfl (mapq rfl) ?_
   with_reducible refine (avermentlaw09_To.calls a1_0 a1_1 t188 t189 _ A5.out).mono ?_
   rintro e w14 ⟨rfl, hb⟩
   refine ⟨_, rfl, ?_⟩
   replace BK184 := bb BK184 hb rfl; replace BK185 := bb BK185 hb rfl; replace BK193 := bb BK193 hb rfl; replace HB := hst HB hb rfl
   (try clear hb)
   refine hK.out _ _ ⟨bc BK184 0 rfl, bc BK184 1 rfl, bc BK185 0 rfl, bc BK185 1 rfl⟩ (fun hHeld => ?_)
   clear hK K
   refine norm_ (a' := ?_) ?_ ?_
   rotate_left; · (show Act.put _ (some 15) _ = _; simp only [Act.put, List.setIfInBounds_toArray, List.set_cons_zero, List.set_cons_succ, i64_w, i32_w]; rfl)
   refine one_ (i := 4) (N := some 16) #[true, true, true, true, true, false, false, false, true, false, false] rfl rfl (one_of HT_.out (by kernel_rfl)) (by decide) (fun K hK => ?_)
   refine goes_ Try.func13 (by kernel_rfl) rfl #[.agg #[.bool t186, .int .i64 t187], .agg #[.bool t188, .int .i64 t189]] (by rfl) rfl rfl (mapq rfl) ?_
   with_reducible refine (known_Meet.calls t186 t187 t188 t189 t190 t191 t192 _ A6.out).mono ?_
   rintro e w15 ⟨rfl, hb⟩
   refine ⟨_, rfl, ?_⟩
   replace BK184 := bb BK184 hb rfl; replace BK185 := bb BK185 hb rfl; replace BK193 := bb BK193 hb rfl; replace HB := hst HB hb rfl
   (try clear hb)
   refine hK.out _ _ ⟨bc BK184 0 rfl, bc BK184 1 rfl, bc BK185 0 rfl, bc BK185 1 rfl⟩ (fun hHeld => ?_)
   clear hK K
   refine norm_ (a' := ?_) ?_ ?_
   rotate_left; · (show Act.put _ (some 16) _ = _; simp only [Act.put, List.setIfInBounds_toArray, List.set_cons_zero, List.set_cons_succ, i64_w, i32_w]; rfl)
   refine pure_ (i := 5) (N := some 11) (v := ?_) (a' := ?_) #[true, true, true, true, true, true, false, false, true, false, false] rfl rfl (any_of HT_.out (by kernel_rfl)) (fun _ _ _ h => h) (Or.inl ⟨by rfl, ?_⟩) ?_ ?_
   rotate_left; · (intro w'; go_simp; with_reducible rfl)
   rotate_left; · (simp only [Act.put, List.setIfInBounds_toArray, List.set_cons_zero, List.set_cons_succ, i64_w, i32_w]; rfl)
   refine pure_ (i := 6) (N := some 17) (v := ?_) (a' := ?_) #[true, true, true, true, true, true, true, false, true, false, false] rfl rfl (any_of HT_.out (by kernel_rfl)) (fun _ _ _ h => h) (Or.inl ⟨by rfl, ?_⟩) ?_ ?_
   rotate_left; · (intro w'; go_simp; with_reducible rfl)
   rotate_left; · (simp only [Act.put, List.setIfInBounds_toArray, List.set_cons_zero, List.set_cons_succ, i64_w, i32_w]; rfl)
   refine pure_ (i := 7) (N := some 18) (v := ?_) (a' := ?_) #[true, true, true, true, true, true, true, true, true, false, false] rfl rfl (any_of HT_.out (by kernel_rfl)) (fun _ _ _ h => h) (Or.inl ⟨by rfl, ?_⟩) ?_ ?_
   rotate_left; · (intro w'; go_simp; with_reducible rfl)
   rotate_left; · (simp only [Act.put, List.setIfInBounds_toArray, List.set_cons_zero, List.set_cons_succ, i64_w, i32_w]; rfl)
   exact norm_ (by simp only [putAll, Act.put, List.setIfInBounds_toArray, List.set_cons_zero, List.set_cons_succ]) (hCont (gb193) _ ⟨hHeld, BK184.out, BK185.out, BK193.out, GW193.out, GE193.out, NB184_193.out, NB193_184.out, NB185_193.out, NB193_185.out, (by repeat (first | (with_reducible first | exact HB.out | apply below_alloc | apply pw_below_drewN | apply below_drew1 | refine below_set ?_ GE184.out | refine below_set ?_ GE185.out | refine below_set ?_ GE193.out) | exact HB.out))⟩)
 rintro gb193 w16 ⟨hS_, h0_, h1_, h2_, h3_, h4_, h5_, h6_, h7_, h8_, h9_⟩
 have n0_ : Aside0 (w16.heap[gb184]? = some (.cells #[.bool a0_0, .int .i64 a0_1] 23 (0, 0))) := ⟨h0_⟩
 have n1_ : Aside0 (w16.heap[gb185]? = some (.cells #[.bool a1_0, .int .i64 a1_1] 23 (0, 0))) := ⟨h1_⟩
 have n2_ : Aside0 (w16.heap[gb193]? = some (.cells #[.bool false, .int .i64 0] 24 (0, 0))) := ⟨h2_⟩
 have n3_ : Aside0 (w.heap.size ≤ gb193) := ⟨h3_⟩
 have n4_ : Aside0 (w.heap.size ≤ gb193) := ⟨h4_⟩
 have n5_ : Aside0 (gb184 ≠ gb193) := ⟨h5_⟩
 have n6_ : Aside0 (gb193 ≠ gb184) := ⟨h6_⟩
 have n7_ : Aside0 (gb185 ≠ gb193) := ⟨h7_⟩
 have n8_ : Aside0 (gb193 ≠ gb185) := ⟨h8_⟩
 have n9_ : Aside0 (Below w.heap.size w w16) := ⟨h9_⟩
 clear BK184
 clear BK185
 clear HB
 clear h0_ h1_ h2_ h3_ h4_ h5_ h6_ h7_ h8_ h9_
 have BK184 := n0_
 have BK185 := n1_
 have BK193 := n2_
 have GW193 := n3_
 have GE193 := n4_
 have NB184_193 := n5_
 have NB193_184 := n6_
 have NB185_193 := n7_
 have NB193_185 := n8_
 have HB := n9_
 clear n0_ n1_ n2_ n3_ n4_ n5_ n6_ n7_ n8_ n9_
 have hHeld : w16.cell? ⟨gb184, 0, none⟩ = some (.bool a0_0) ∧ w16.cell? ⟨gb184, 1, none⟩ = some (.int .i64 a0_1) ∧ w16.cell? ⟨gb185, 0, none⟩ = some (.bool a1_0) ∧ w16.cell? ⟨gb185, 1, none⟩ = some (.int .i64 a1_1) := hS_
 refine norm_ (a' := ?_) ?_ ?_
 rotate_left
 ·
  simp only [putAll, Act.put, List.setIfInBounds_toArray, List.set_cons_zero, List.set_cons_succ]
  rfl
 refine one_ (i := 9) (N := none) #[true, true, true, true, true, true, true, true, true, true, false] rfl rfl (one_of HT_.out (by kernel_rfl)) (by decide) (fun K hK => ?_)
 have hs17 : w16.cell? ⟨gb193, 0, none⟩ = some (.bool false) := bc BK193 0 rfl
 have hfs17 := blk_frozen BK193.out 0
 have hns17_0 := NB184_193.out
 have hns17_1 := NB185_193.out
 have hms17_0 := NB193_184.out
 have hms17_1 := NB193_185.out
 have hs18 : w16.cell? ⟨gb193, 1, none⟩ = some (.int .i64 0) := bc BK193 1 rfl
 have hfs18 := blk_frozen BK193.out 1
 have hns18_0 := NB184_193.out
 have hns18_1 := NB185_193.out
 have hms18_0 := NB193_184.out
 have hms18_1 := NB193_185.out
 refine skip_ (w1 := ?_) (by rfl) rfl ?_ ?_
 rotate_left
 ·
  go_simp
  rfl
 refine hK.out _ _ ⟨((cell_far (p := ⟨gb193, _, none⟩) NB184_193.out _).trans (((cell_far (p := ⟨gb193, _, none⟩) NB184_193.out _).trans (hHeld.1)))), ((cell_far (p := ⟨gb193, _, none⟩) NB184_193.out _).trans (((cell_far (p := ⟨gb193, _, none⟩) NB184_193.out _).trans (hHeld.2.1)))), ((cell_far (p := ⟨gb193, _, none⟩) NB185_193.out _).trans (((cell_far (p := ⟨gb193, _, none⟩) NB185_193.out _).trans (hHeld.2.2.1)))), ((cell_far (p := ⟨gb193, _, none⟩) NB185_193.out _).trans (((cell_far (p := ⟨gb193, _, none⟩) NB185_193.out _).trans (hHeld.2.2.2))))⟩ (fun hHeld => ?_)
 clear hK K
 refine pure_ (i := 10) (N := some 8) (v := ?_) (a' := ?_) #[true, true, true, true, true, true, true, true, true, true, true] rfl rfl (any_of HT_.out (by kernel_rfl)) (fun _ _ _ h => h) (Or.inl ⟨by rfl, ?_⟩) ?_ ?_
 rotate_left; · (intro w'; go_simp; with_reducible rfl)
 rotate_left; · (simp only [Act.put, List.setIfInBounds_toArray, List.set_cons_zero, List.set_cons_succ, i64_w, i32_w]; rfl)
 refine done_ (done_of HT_.out (by kernel_rfl)) ?_
 have hnb19 := NB184_185.out
 have hnc19 := NB185_184.out
 have hnb20 := NB184_193.out
 have hnc20 := NB193_184.out
 have hcz21_0 : w16.cell? ⟨gb184, 0, none⟩ = some (.bool a0_0) := bc BK184 0 rfl
 have hcz21_1 : w16.cell? ⟨gb184, 1, none⟩ = some (.int .i64 a0_1) := bc BK184 1 rfl
 have hfz21_0 := blk_frozen BK184.out 0
 have hfz21_1 := blk_frozen BK184.out 1
 have hnb22 := NB185_193.out
 have hnc22 := NB193_185.out
 have hcz23_0 : w16.cell? ⟨gb185, 0, none⟩ = some (.bool a1_0) := bc BK185 0 rfl
 have hcz23_1 : w16.cell? ⟨gb185, 1, none⟩ = some (.int .i64 a1_1) := bc BK185 1 rfl
 have hfz23_0 := blk_frozen BK185.out 0
 have hfz23_1 := blk_frozen BK185.out 1
 go_upto_region 3 with (first | ((with_reducible refine gate_callee (f := 15) rfl ?_); refine goesL_ (some 22) rfl rfl Try.func15 (by kernel_rfl) rfl #[.agg #[.bool a0_0, .int .i64 a0_1], .agg #[.bool a1_0, .int .i64 a1_1]] rfl (mapq rfl) ?_; (with_reducible refine (avermentref09_Meet.calls k a0_0 a0_1 a1_0 a1_1 t194 t195 t196 _ A7.out).mono ?_); rintro e w24 ⟨rfl, hb⟩; refine ⟨_, rfl, ?_⟩; replace BK184 := Aside0.mk (blk_below (g := gb184) (o := .cells #[.bool a0_0, .int .i64 a0_1] 23 (0, 0)) (by (with_reducible repeat (first | refine blk_drewN ?_ _ | refine blk_drew ?_ | refine blk_alloc ?_ _)); refine blk_far ?_ NB184_193.out _; (with_reducible repeat (first | refine blk_drewN ?_ _ | refine blk_drew ?_ | refine blk_alloc ?_ _)); refine blk_far ?_ NB184_193.out _; (with_reducible repeat (first | refine blk_drewN ?_ _ | refine blk_drew ?_ | refine blk_alloc ?_ _)); exact BK184.out) hb); replace BK185 := Aside0.mk (blk_below (g := gb185) (o := .cells #[.bool a1_0, .int .i64 a1_1] 23 (0, 0)) (by (with_reducible repeat (first | refine blk_drewN ?_ _ | refine blk_drew ?_ | refine blk_alloc ?_ _)); refine blk_far ?_ NB185_193.out _; (with_reducible repeat (first | refine blk_drewN ?_ _ | refine blk_drew ?_ | refine blk_alloc ?_ _)); refine blk_far ?_ NB185_193.out _; (with_reducible repeat (first | refine blk_drewN ?_ _ | refine blk_drew ?_ | refine blk_alloc ?_ _)); exact BK185.out) hb); replace BK193 := Aside0.mk (blk_below (g := gb193) (o := .cells #[.bool t190, .int .i64 t191] 24 (0, 0)) (by (with_reducible repeat (first | refine blk_drewN ?_ _ | refine blk_drew ?_ | refine blk_alloc ?_ _)); refine blk_put (cs := #[.bool t190, .int .i64 0]) ?_ 1 _ rfl; (with_reducible repeat (first | refine blk_drewN ?_ _ | refine blk_drew ?_ | refine blk_alloc ?_ _)); refine blk_put (cs := #[.bool false, .int .i64 0]) ?_ 0 _ rfl; (with_reducible repeat (first | refine blk_drewN ?_ _ | refine blk_drew ?_ | refine blk_alloc ?_ _)); exact BK193.out) hb); replace HB := Aside0.mk (below_step (by repeat (first | (with_reducible first | exact HB.out | apply below_alloc | apply pw_below_drewN | apply below_drew1 | refine below_set ?_ GE184.out | refine below_set ?_ GE185.out | refine below_set ?_ GE193.out) | exact HB.out)) hb); (try clear hb)) | ((with_reducible refine gate_dst (N := 9) rfl ?_); refine box_event ?hg (N := 9) ?hd (cs := #[.bool false, .int .i64 0]) (t := 23) ?hr ?_; (case hd => rfl); (case hg => rfl); (case hr => first | (go_simp; done) | (go_simp; rfl)); intro gb197 hg w25 hbox hb; have BK197 := Aside0.mk (hbox); have GW197 := geb hg HB rfl; have GE197 := geb hg HB rfl; have NB184_197 := nbl hg BK184 rfl; have NB197_184 := nbr hg BK184 rfl; have NB185_197 := nbl hg BK185 rfl; have NB197_185 := nbr hg BK185 rfl; have NB193_197 := nbl hg BK193 rfl; have NB197_193 := nbr hg BK193 rfl; replace BK184 := bb BK184 hb rfl; replace BK185 := bb BK185 hb rfl; replace BK193 := bb BK193 hb rfl; replace HB := hst HB hb rfl; clear hb hbox hg; have hnb26 := NB197_184.out; have hnc26 := NB184_197.out; have hnb27 := NB197_185.out; have hnc27 := NB185_197.out; have hnb28 := NB197_193.out; have hnc28 := NB193_197.out; have hcz29_0 : w25.cell? ⟨gb197, 0, none⟩ = some (.bool false) := (blk_cell BK197.out 0).trans rfl; have hcz29_1 : w25.cell? ⟨gb197, 1, none⟩ = some (.int .i64 0) := (blk_cell BK197.out 1).trans rfl; have hfz29_0 := blk_frozen BK197.out 0; have hfz29_1 := blk_frozen BK197.out 1))
 (try simp only [Act.put, List.setIfInBounds_toArray, List.set_cons_zero, List.set_cons_succ])
 go_cut [50] (fun v50 wc => ∃ (kq : Nat) (x50_7 : Bool), v50 = .bool x50_7 ∧ Aside0 (avermentlaw09_KnownSets.j0 kq a2 x50_7 a0_0 a0_1 a1_0 a1_1 = some r) ∧ Aside0 (kq ≤ k) ∧ Aside0 (wc.heap[gb184]? = some (.cells #[.bool a0_0, .int .i64 a0_1] 23 (0, 0))) ∧ Aside0 (wc.heap[gb185]? = some (.cells #[.bool a1_0, .int .i64 a1_1] 23 (0, 0))) ∧ Aside0 (wc.heap[gb193]? = some (.cells #[.bool t190, .int .i64 t191] 24 (0, 0))) ∧ Aside0 (wc.heap[gb197]? = some (.cells #[.bool t194, .int .i64 t195] 23 (0, 0))) ∧ Aside0 (Below w.heap.size w wc))
 case first =>
  have H := HC8.out
  clear HC8
  replace H := Option.bind_eq_some_iff.mp H
  obtain ⟨t198, A300, H⟩ := H
  (try dsimp only at H)
  have A30 := Aside0.mk A300
  clear A300
  by_cases c31 : t198 = true
  ·
   subst c31
   rw [if_pos rfl] at H
   replace H := Option.bind_eq_some_iff.mp H
   obtain ⟨⟨t199, t200⟩, A320, H⟩ := H
   (try dsimp only at H)
   have A32 := Aside0.mk A320
   clear A320
   by_cases c33 : (!(t199 == t194) || (!(t200 == t195))) = true
   ·
    rw [if_pos c33] at H
    have c33b0 : (!(t199 == t194) || (!(t200 == t195))) = true := c33
    clear c33
    (first | rw [c33b0] | (simp only [i64_w, i32_w]; rw [c33b0]) | skip)
    have H' := Aside0.mk H
    clear H
    try go_wp2
    have n0_ : Aside0 (((w25.setCell ⟨gb197, 0, none⟩ (.bool t194)).setCell ⟨gb197, 1, none⟩ (.int .i64 t195)).heap[gb184]? = some (.cells #[.bool a0_0, .int .i64 a0_1] 23 (0, 0))) := ⟨by (with_reducible repeat (first | refine blk_drewN ?_ _ | refine blk_drew ?_ | refine blk_alloc ?_ _)); refine blk_far ?_ NB184_197.out _; (with_reducible repeat (first | refine blk_drewN ?_ _ | refine blk_drew ?_ | refine blk_alloc ?_ _)); refine blk_far ?_ NB184_197.out _; (with_reducible repeat (first | refine blk_drewN ?_ _ | refine blk_drew ?_ | refine blk_alloc ?_ _)); exact BK184.out⟩
    have n1_ : Aside0 (((w25.setCell ⟨gb197, 0, none⟩ (.bool t194)).setCell ⟨gb197, 1, none⟩ (.int .i64 t195)).heap[gb185]? = some (.cells #[.bool a1_0, .int .i64 a1_1] 23 (0, 0))) := ⟨by (with_reducible repeat (first | refine blk_drewN ?_ _ | refine blk_drew ?_ | refine blk_alloc ?_ _)); refine blk_far ?_ NB185_197.out _; (with_reducible repeat (first | refine blk_drewN ?_ _ | refine blk_drew ?_ | refine blk_alloc ?_ _)); refine blk_far ?_ NB185_197.out _; (with_reducible repeat (first | refine blk_drewN ?_ _ | refine blk_drew ?_ | refine blk_alloc ?_ _)); exact BK185.out⟩
    have n2_ : Aside0 (((w25.setCell ⟨gb197, 0, none⟩ (.bool t194)).setCell ⟨gb197, 1, none⟩ (.int .i64 t195)).heap[gb193]? = some (.cells #[.bool t190, .int .i64 t191] 24 (0, 0))) := ⟨by (with_reducible repeat (first | refine blk_drewN ?_ _ | refine blk_drew ?_ | refine blk_alloc ?_ _)); refine blk_far ?_ NB193_197.out _; (with_reducible repeat (first | refine blk_drewN ?_ _ | refine blk_drew ?_ | refine blk_alloc ?_ _)); refine blk_far ?_ NB193_197.out _; (with_reducible repeat (first | refine blk_drewN ?_ _ | refine blk_drew ?_ | refine blk_alloc ?_ _)); exact BK193.out⟩
    have n3_ : Aside0 (((w25.setCell ⟨gb197, 0, none⟩ (.bool t194)).setCell ⟨gb197, 1, none⟩ (.int .i64 t195)).heap[gb197]? = some (.cells #[.bool t194, .int .i64 t195] 23 (0, 0))) := ⟨by (with_reducible repeat (first | refine blk_drewN ?_ _ | refine blk_drew ?_ | refine blk_alloc ?_ _)); refine blk_put (cs := #[.bool t194, .int .i64 0]) ?_ 1 _ rfl; (with_reducible repeat (first | refine blk_drewN ?_ _ | refine blk_drew ?_ | refine blk_alloc ?_ _)); refine blk_put (cs := #[.bool false, .int .i64 0]) ?_ 0 _ rfl; (with_reducible repeat (first | refine blk_drewN ?_ _ | refine blk_drew ?_ | refine blk_alloc ?_ _)); exact BK197.out⟩
    have n4_ : Aside0 (Below w.heap.size w ((w25.setCell ⟨gb197, 0, none⟩ (.bool t194)).setCell ⟨gb197, 1, none⟩ (.int .i64 t195))) := ⟨by repeat (first | (with_reducible first | exact HB.out | apply below_alloc | apply pw_below_drewN | apply below_drew1 | refine below_set ?_ GE184.out | refine below_set ?_ GE185.out | refine below_set ?_ GE193.out | refine below_set ?_ GE197.out) | exact HB.out)⟩
    (try clear BK184)
    (try clear BK185)
    (try clear BK193)
    (try clear BK197)
    (try clear HB)
    generalize ((w25.setCell ⟨gb197, 0, none⟩ (.bool t194)).setCell ⟨gb197, 1, none⟩ (.int .i64 t195)) = w34 at n0_ n1_ n2_ n3_ n4_ ⊢
    have BK184 := n0_
    have BK185 := n1_
    have BK193 := n2_
    have BK197 := n3_
    have HB := n4_
    clear n0_ n1_ n2_ n3_ n4_
    replace BK184 := Aside0.mk (blk_drew BK184.out); replace BK185 := Aside0.mk (blk_drew BK185.out); replace BK193 := Aside0.mk (blk_drew BK193.out); replace BK197 := Aside0.mk (blk_drew BK197.out); replace HB := Aside0.mk (below_drew1 HB.out)
    refine start_ (n := 26) (S := fun w' => w'.cell? ⟨gb193, 0, none⟩ = some (.bool t190) ∧ w'.cell? ⟨gb193, 1, none⟩ = some (.int .i64 t191) ∧ w'.cell? ⟨gb197, 0, none⟩ = some (.bool t194) ∧ w'.cell? ⟨gb197, 1, none⟩ = some (.int .i64 t195)) (ds := []) #[false, false, false, false, false, false, false, false, false, false, false, false, false, false, false, false, false, false, false, false, false, false, false, false, false, false] (by kernel_rfl) rfl rfl ⟨bc BK193 0 rfl, bc BK193 1 rfl, bc BK197 0 rfl, bc BK197 1 rfl⟩ (fun hHeld => ?_); refine with_tabW avermentlaw09_KnownSets.tab3 avermentlaw09_KnownSets.bits3 (fun HT_ HW_ => ?_)
    generalize w34.drew = w35 at BK184 BK185 BK193 BK197 HB hHeld ⊢
    refine one_ (i := 0) (N := some 25) #[true, false, false, false, false, false, false, false, false, false, false, false, false, false, false, false, false, false, false, false, false, false, false, false, false, false] rfl rfl (one_of HT_.out (by kernel_rfl)) (by decide) (fun K hK => ?_)
    refine goes_ Try.func16 (by kernel_rfl) rfl #[] (by rfl) rfl rfl (mapq rfl) ?_
    with_reducible refine (avermentlaw09_told.calls k  true _ A30.out).mono ?_
    rintro e w36 ⟨rfl, hb⟩
    refine ⟨_, rfl, ?_⟩
    replace BK184 := bb BK184 hb rfl; replace BK185 := bb BK185 hb rfl; replace BK193 := bb BK193 hb rfl; replace BK197 := bb BK197 hb rfl; replace HB := hst HB hb rfl
    (try clear hb)
    refine hK.out _ _ ⟨bc BK193 0 rfl, bc BK193 1 rfl, bc BK197 0 rfl, bc BK197 1 rfl⟩ (fun hHeld => ?_)
    clear hK K
    refine norm_ (a' := ?_) ?_ ?_
    rotate_left; · (show Act.put _ (some 25) _ = _; simp only [Act.put, List.setIfInBounds_toArray, List.set_cons_zero, List.set_cons_succ, i64_w, i32_w]; rfl)
    refine pure_ (i := 1) (N := some 26) (v := ?_) (a' := ?_) #[true, true, false, false, false, false, false, false, false, false, false, false, false, false, false, false, false, false, false, false, false, false, false, false, false, false] rfl rfl (any_of HT_.out (by kernel_rfl)) (fun _ _ _ h => h) (Or.inl ⟨by rfl, ?_⟩) ?_ ?_
    rotate_left; · (intro w'; go_simp; with_reducible rfl)
    rotate_left; · (simp only [Act.put, List.setIfInBounds_toArray, List.set_cons_zero, List.set_cons_succ, i64_w, i32_w]; rfl)
    refine pure_ (i := 2) (N := some 27) (v := ?_) (a' := ?_) #[true, true, true, false, false, false, false, false, false, false, false, false, false, false, false, false, false, false, false, false, false, false, false, false, false, false] rfl rfl (any_of HT_.out (by kernel_rfl)) (fun _ _ _ h => h) (Or.inl ⟨by rfl, ?_⟩) ?_ ?_
    rotate_left; · (intro w'; go_simp; with_reducible rfl)
    rotate_left; · (simp only [Act.put, List.setIfInBounds_toArray, List.set_cons_zero, List.set_cons_succ, i64_w, i32_w]; rfl)
    refine take_ (i := 3) (N := some 28) (v := ?_) (a' := ?_) #[true, true, true, true, false, false, false, false, false, false, false, false, false, false, false, false, false, false, false, false, false, false, false, false, false, false] rfl rfl (take_ofW HT_.out HW_.out (by kernel_rfl)) (fun _ _ _ h => h) (Or.inl ⟨by rfl, ?_⟩) hHeld ?_ ?_
    rotate_left
    ·
     rintro w' ⟨s0, s1, s2, s3⟩
     go_simp
     with_reducible rfl
    rotate_left
    ·
     simp only [Act.put, List.setIfInBounds_toArray, List.set_cons_zero, List.set_cons_succ, i64_w, i32_w]
     rfl
    refine take_ (i := 5) (N := some 30) (v := ?_) (a' := ?_) #[true, true, true, true, false, true, false, false, false, false, false, false, false, false, false, false, false, false, false, false, false, false, false, false, false, false] rfl rfl (take_ofW HT_.out HW_.out (by kernel_rfl)) (fun _ _ _ h => h) (Or.inl ⟨by rfl, ?_⟩) hHeld ?_ ?_
    rotate_left
    ·
     rintro w' ⟨s0, s1, s2, s3⟩
     go_simp
     with_reducible rfl
    rotate_left
    ·
     simp only [Act.put, List.setIfInBounds_toArray, List.set_cons_zero, List.set_cons_succ, i64_w, i32_w]
     rfl
    refine one_ (i := 4) (N := some 29) #[true, true, true, true, true, true, false, false, false, false, false, false, false, false, false, false, false, false, false, false, false, false, false, false, false, false] rfl rfl (one_of HT_.out (by kernel_rfl)) (by decide) (fun K hK => ?_)
    refine goes_ Try.func17 (by kernel_rfl) rfl #[.agg #[.bool t190, .int .i64 t191]] (by rfl) rfl rfl (mapq rfl) ?_
    with_reducible refine (avermentlaw09_From.calls t190 t191 t199 t200 _ A32.out).mono ?_
    rintro e w37 ⟨rfl, hb⟩
    refine ⟨_, rfl, ?_⟩
    replace BK184 := bb BK184 hb rfl; replace BK185 := bb BK185 hb rfl; replace BK193 := bb BK193 hb rfl; replace BK197 := bb BK197 hb rfl; replace HB := hst HB hb rfl
    (try clear hb)
    refine hK.out _ _ ⟨bc BK193 0 rfl, bc BK193 1 rfl, bc BK197 0 rfl, bc BK197 1 rfl⟩ (fun hHeld => ?_)
    clear hK K
    refine norm_ (a' := ?_) ?_ ?_
    rotate_left; · (show Act.put _ (some 29) _ = _; simp only [Act.put, List.setIfInBounds_toArray, List.set_cons_zero, List.set_cons_succ, i64_w, i32_w]; rfl)
    refine pure_ (i := 6) (N := some 31) (v := ?_) (a' := ?_) #[true, true, true, true, true, true, true, false, false, false, false, false, false, false, false, false, false, false, false, false, false, false, false, false, false, false] rfl rfl (any_of HT_.out (by kernel_rfl)) (fun _ _ _ h => h) (Or.inl ⟨by rfl, ?_⟩) ?_ ?_
    rotate_left; · (intro w'; go_simp; with_reducible rfl)
    rotate_left; · (simp only [Act.put, List.setIfInBounds_toArray, List.set_cons_zero, List.set_cons_succ, i64_w, i32_w]; rfl)
    refine pure_ (i := 7) (N := some 32) (v := ?_) (a' := ?_) #[true, true, true, true, true, true, true, true, false, false, false, false, false, false, false, false, false, false, false, false, false, false, false, false, false, false] rfl rfl (any_of HT_.out (by kernel_rfl)) (fun _ _ _ h => h) (Or.inl ⟨by rfl, ?_⟩) ?_ ?_
    rotate_left; · (intro w'; go_simp; with_reducible rfl)
    rotate_left; · (simp only [Act.put, List.setIfInBounds_toArray, List.set_cons_zero, List.set_cons_succ, i64_w, i32_w]; rfl)
    refine pure_ (i := 8) (N := some 33) (v := ?_) (a' := ?_) #[true, true, true, true, true, true, true, true, true, false, false, false, false, false, false, false, false, false, false, false, false, false, false, false, false, false] rfl rfl (any_of HT_.out (by kernel_rfl)) (fun _ _ _ h => h) (Or.inl ⟨by rfl, ?_⟩) ?_ ?_
    rotate_left; · (intro w'; go_simp; with_reducible rfl)
    rotate_left; · (simp only [Act.put, List.setIfInBounds_toArray, List.set_cons_zero, List.set_cons_succ, i64_w, i32_w]; rfl)
    refine pure_ (i := 9) (N := some 34) (v := undef) (a' := ?_) #[true, true, true, true, true, true, true, true, true, true, false, false, false, false, false, false, false, false, false, false, false, false, false, false, false, false] rfl rfl (any_of HT_.out (by kernel_rfl)) (fun _ _ _ h => h) (Or.inr ⟨by rfl, rfl⟩) ?_ ?_
    rotate_left
    ·
     simp only [Act.put, List.setIfInBounds_toArray, List.set_cons_zero, List.set_cons_succ, i64_w, i32_w]
     rfl
    refine pure_ (i := 10) (N := some 35) (v := undef) (a' := ?_) #[true, true, true, true, true, true, true, true, true, true, true, false, false, false, false, false, false, false, false, false, false, false, false, false, false, false] rfl rfl (any_of HT_.out (by kernel_rfl)) (fun _ _ _ h => h) (Or.inr ⟨by rfl, rfl⟩) ?_ ?_
    rotate_left
    ·
     simp only [Act.put, List.setIfInBounds_toArray, List.set_cons_zero, List.set_cons_succ, i64_w, i32_w]
     rfl
    refine pure_ (i := 11) (N := some 36) (v := undef) (a' := ?_) #[true, true, true, true, true, true, true, true, true, true, true, true, false, false, false, false, false, false, false, false, false, false, false, false, false, false] rfl rfl (any_of HT_.out (by kernel_rfl)) (fun _ _ _ h => h) (Or.inr ⟨by rfl, rfl⟩) ?_ ?_
    rotate_left
    ·
     simp only [Act.put, List.setIfInBounds_toArray, List.set_cons_zero, List.set_cons_succ, i64_w, i32_w]
     rfl
    refine pure_ (i := 12) (N := some 37) (v := ?_) (a' := ?_) #[true, true, true, true, true, true, true, true, true, true, true, true, true, false, false, false, false, false, false, false, false, false, false, false, false, false] rfl rfl (any_of HT_.out (by kernel_rfl)) (fun _ _ _ h => h) (Or.inl ⟨by rfl, ?_⟩) ?_ ?_
    rotate_left; · (intro w'; go_simp; with_reducible rfl)
    rotate_left; · (simp only [Act.put, List.setIfInBounds_toArray, List.set_cons_zero, List.set_cons_succ, i64_w, i32_w]; rfl)
    refine pure_ (i := 13) (N := some 38) (v := ?_) (a' := ?_) #[true, true, true, true, true, true, true, true, true, true, true, true, true, true, false, false, false, false, false, false, false, false, false, false, false, false] rfl rfl (any_of HT_.out (by kernel_rfl)) (fun _ _ _ h => h) (Or.inl ⟨by rfl, ?_⟩) ?_ ?_
    rotate_left; · (intro w'; go_simp; with_reducible rfl)
    rotate_left; · (simp only [Act.put, List.setIfInBounds_toArray, List.set_cons_zero, List.set_cons_succ, i64_w, i32_w]; rfl)
    refine pure_ (i := 14) (N := some 39) (v := undef) (a' := ?_) #[true, true, true, true, true, true, true, true, true, true, true, true, true, true, true, false, false, false, false, false, false, false, false, false, false, false] rfl rfl (any_of HT_.out (by kernel_rfl)) (fun _ _ _ h => h) (Or.inr ⟨by rfl, rfl⟩) ?_ ?_
    rotate_left
    ·
     simp only [Act.put, List.setIfInBounds_toArray, List.set_cons_zero, List.set_cons_succ, i64_w, i32_w]
     rfl
    refine pure_ (i := 15) (N := some 40) (v := undef) (a' := ?_) #[true, true, true, true, true, true, true, true, true, true, true, true, true, true, true, true, false, false, false, false, false, false, false, false, false, false] rfl rfl (any_of HT_.out (by kernel_rfl)) (fun _ _ _ h => h) (Or.inr ⟨by rfl, rfl⟩) ?_ ?_
    rotate_left
    ·
     simp only [Act.put, List.setIfInBounds_toArray, List.set_cons_zero, List.set_cons_succ, i64_w, i32_w]
     rfl
    refine pure_ (i := 16) (N := some 41) (v := undef) (a' := ?_) #[true, true, true, true, true, true, true, true, true, true, true, true, true, true, true, true, true, false, false, false, false, false, false, false, false, false] rfl rfl (any_of HT_.out (by kernel_rfl)) (fun _ _ _ h => h) (Or.inr ⟨by rfl, rfl⟩) ?_ ?_
    rotate_left
    ·
     simp only [Act.put, List.setIfInBounds_toArray, List.set_cons_zero, List.set_cons_succ, i64_w, i32_w]
     rfl
    refine pure_ (i := 17) (N := some 42) (v := undef) (a' := ?_) #[true, true, true, true, true, true, true, true, true, true, true, true, true, true, true, true, true, true, false, false, false, false, false, false, false, false] rfl rfl (any_of HT_.out (by kernel_rfl)) (fun _ _ _ h => h) (Or.inr ⟨by rfl, rfl⟩) ?_ ?_
    rotate_left
    ·
     simp only [Act.put, List.setIfInBounds_toArray, List.set_cons_zero, List.set_cons_succ, i64_w, i32_w]
     rfl
    refine pure_ (i := 18) (N := some 43) (v := undef) (a' := ?_) #[true, true, true, true, true, true, true, true, true, true, true, true, true, true, true, true, true, true, true, false, false, false, false, false, false, false] rfl rfl (any_of HT_.out (by kernel_rfl)) (fun _ _ _ h => h) (Or.inr ⟨by rfl, rfl⟩) ?_ ?_
    rotate_left
    ·
     simp only [Act.put, List.setIfInBounds_toArray, List.set_cons_zero, List.set_cons_succ, i64_w, i32_w]
     rfl
    refine pure_ (i := 19) (N := some 44) (v := undef) (a' := ?_) #[true, true, true, true, true, true, true, true, true, true, true, true, true, true, true, true, true, true, true, true, false, false, false, false, false, false] rfl rfl (any_of HT_.out (by kernel_rfl)) (fun _ _ _ h => h) (Or.inr ⟨by rfl, rfl⟩) ?_ ?_
    rotate_left
    ·
     simp only [Act.put, List.setIfInBounds_toArray, List.set_cons_zero, List.set_cons_succ, i64_w, i32_w]
     rfl
    refine pure_ (i := 20) (N := some 45) (v := undef) (a' := ?_) #[true, true, true, true, true, true, true, true, true, true, true, true, true, true, true, true, true, true, true, true, true, false, false, false, false, false] rfl rfl (any_of HT_.out (by kernel_rfl)) (fun _ _ _ h => h) (Or.inr ⟨by rfl, rfl⟩) ?_ ?_
    rotate_left
    ·
     simp only [Act.put, List.setIfInBounds_toArray, List.set_cons_zero, List.set_cons_succ, i64_w, i32_w]
     rfl
    refine pure_ (i := 21) (N := some 46) (v := undef) (a' := ?_) #[true, true, true, true, true, true, true, true, true, true, true, true, true, true, true, true, true, true, true, true, true, true, false, false, false, false] rfl rfl (any_of HT_.out (by kernel_rfl)) (fun _ _ _ h => h) (Or.inr ⟨by rfl, rfl⟩) ?_ ?_
    rotate_left
    ·
     simp only [Act.put, List.setIfInBounds_toArray, List.set_cons_zero, List.set_cons_succ, i64_w, i32_w]
     rfl
    refine pure_ (i := 22) (N := some 47) (v := undef) (a' := ?_) #[true, true, true, true, true, true, true, true, true, true, true, true, true, true, true, true, true, true, true, true, true, true, true, false, false, false] rfl rfl (any_of HT_.out (by kernel_rfl)) (fun _ _ _ h => h) (Or.inr ⟨by rfl, rfl⟩) ?_ ?_
    rotate_left
    ·
     simp only [Act.put, List.setIfInBounds_toArray, List.set_cons_zero, List.set_cons_succ, i64_w, i32_w]
     rfl
    refine pure_ (i := 23) (N := some 48) (v := undef) (a' := ?_) #[true, true, true, true, true, true, true, true, true, true, true, true, true, true, true, true, true, true, true, true, true, true, true, true, false, false] rfl rfl (any_of HT_.out (by kernel_rfl)) (fun _ _ _ h => h) (Or.inr ⟨by rfl, rfl⟩) ?_ ?_
    rotate_left
    ·
     simp only [Act.put, List.setIfInBounds_toArray, List.set_cons_zero, List.set_cons_succ, i64_w, i32_w]
     rfl
    refine pure_ (i := 24) (N := some 49) (v := undef) (a' := ?_) #[true, true, true, true, true, true, true, true, true, true, true, true, true, true, true, true, true, true, true, true, true, true, true, true, true, false] rfl rfl (any_of HT_.out (by kernel_rfl)) (fun _ _ _ h => h) (Or.inr ⟨by rfl, rfl⟩) ?_ ?_
    rotate_left
    ·
     simp only [Act.put, List.setIfInBounds_toArray, List.set_cons_zero, List.set_cons_succ, i64_w, i32_w]
     rfl
    refine pure_ (i := 25) (N := some 50) (v := ?_) (a' := ?_) #[true, true, true, true, true, true, true, true, true, true, true, true, true, true, true, true, true, true, true, true, true, true, true, true, true, true] rfl rfl (any_of HT_.out (by kernel_rfl)) (fun _ _ _ h => h) (Or.inl ⟨by rfl, ?_⟩) ?_ ?_
    rotate_left; · (intro w'; go_simp; with_reducible rfl)
    rotate_left; · (simp only [Act.put, List.setIfInBounds_toArray, List.set_cons_zero, List.set_cons_succ, i64_w, i32_w]; rfl)
    refine done_ (done_of HT_.out (by kernel_rfl)) ?_
    try go_wp2
    go_meet
    case rel => exact ⟨_, (true), (by first | rfl | (simp; done) | (simp [*]; done)), H', ⟨by first | omega | exact Nat.le_refl _⟩, ⟨by (with_reducible repeat (first | refine blk_drewN ?_ _ | refine blk_drew ?_ | refine blk_alloc ?_ _)); exact BK184.out⟩, ⟨by (with_reducible repeat (first | refine blk_drewN ?_ _ | refine blk_drew ?_ | refine blk_alloc ?_ _)); exact BK185.out⟩, ⟨by (with_reducible repeat (first | refine blk_drewN ?_ _ | refine blk_drew ?_ | refine blk_alloc ?_ _)); exact BK193.out⟩, ⟨by (with_reducible repeat (first | refine blk_drewN ?_ _ | refine blk_drew ?_ | refine blk_alloc ?_ _)); exact BK197.out⟩, ⟨by repeat (first | (with_reducible first | exact HB.out | apply below_alloc | apply pw_below_drewN | apply below_drew1 | refine below_set ?_ GE184.out | refine below_set ?_ GE185.out | refine below_set ?_ GE193.out | refine below_set ?_ GE197.out) | exact HB.out)⟩⟩
   ·
    rw [if_neg c33] at H
    have c33b0 : (!(t199 == t194) || (!(t200 == t195))) = false := by simpa using c33
    clear c33
    (first | rw [c33b0] | (simp only [i64_w, i32_w]; rw [c33b0]) | skip)
    by_cases c38 : (t192 != t196) = true
    ·
     rw [if_pos c38] at H
     have c38b0 : (t192 != t196) = true := c38
     (try (have c38b1 : decide (t192 = t196) = false := by simpa using c38))
     (try (have c38b2 : (t192 == t196) = false := by simpa using c38))
     (try (have c38b3 : ¬ (t192 = t196) := by simpa using c38))
     clear c38
     have H' := Aside0.mk H
     clear H
     try go_wp2
     have n0_ : Aside0 (((w25.setCell ⟨gb197, 0, none⟩ (.bool t194)).setCell ⟨gb197, 1, none⟩ (.int .i64 t195)).heap[gb184]? = some (.cells #[.bool a0_0, .int .i64 a0_1] 23 (0, 0))) := ⟨by (with_reducible repeat (first | refine blk_drewN ?_ _ | refine blk_drew ?_ | refine blk_alloc ?_ _)); refine blk_far ?_ NB184_197.out _; (with_reducible repeat (first | refine blk_drewN ?_ _ | refine blk_drew ?_ | refine blk_alloc ?_ _)); refine blk_far ?_ NB184_197.out _; (with_reducible repeat (first | refine blk_drewN ?_ _ | refine blk_drew ?_ | refine blk_alloc ?_ _)); exact BK184.out⟩
     have n1_ : Aside0 (((w25.setCell ⟨gb197, 0, none⟩ (.bool t194)).setCell ⟨gb197, 1, none⟩ (.int .i64 t195)).heap[gb185]? = some (.cells #[.bool a1_0, .int .i64 a1_1] 23 (0, 0))) := ⟨by (with_reducible repeat (first | refine blk_drewN ?_ _ | refine blk_drew ?_ | refine blk_alloc ?_ _)); refine blk_far ?_ NB185_197.out _; (with_reducible repeat (first | refine blk_drewN ?_ _ | refine blk_drew ?_ | refine blk_alloc ?_ _)); refine blk_far ?_ NB185_197.out _; (with_reducible repeat (first | refine blk_drewN ?_ _ | refine blk_drew ?_ | refine blk_alloc ?_ _)); exact BK185.out⟩
     have n2_ : Aside0 (((w25.setCell ⟨gb197, 0, none⟩ (.bool t194)).setCell ⟨gb197, 1, none⟩ (.int .i64 t195)).heap[gb193]? = some (.cells #[.bool t190, .int .i64 t191] 24 (0, 0))) := ⟨by (with_reducible repeat (first | refine blk_drewN ?_ _ | refine blk_drew ?_ | refine blk_alloc ?_ _)); refine blk_far ?_ NB193_197.out _; (with_reducible repeat (first | refine blk_drewN ?_ _ | refine blk_drew ?_ | refine blk_alloc ?_ _)); refine blk_far ?_ NB193_197.out _; (with_reducible repeat (first | refine blk_drewN ?_ _ | refine blk_drew ?_ | refine blk_alloc ?_ _)); exact BK193.out⟩
     have n3_ : Aside0 (((w25.setCell ⟨gb197, 0, none⟩ (.bool t194)).setCell ⟨gb197, 1, none⟩ (.int .i64 t195)).heap[gb197]? = some (.cells #[.bool t194, .int .i64 t195] 23 (0, 0))) := ⟨by (with_reducible repeat (first | refine blk_drewN ?_ _ | refine blk_drew ?_ | refine blk_alloc ?_ _)); refine blk_put (cs := #[.bool t194, .int .i64 0]) ?_ 1 _ rfl; (with_reducible repeat (first | refine blk_drewN ?_ _ | refine blk_drew ?_ | refine blk_alloc ?_ _)); refine blk_put (cs := #[.bool false, .int .i64 0]) ?_ 0 _ rfl; (with_reducible repeat (first | refine blk_drewN ?_ _ | refine blk_drew ?_ | refine blk_alloc ?_ _)); exact BK197.out⟩
     have n4_ : Aside0 (Below w.heap.size w ((w25.setCell ⟨gb197, 0, none⟩ (.bool t194)).setCell ⟨gb197, 1, none⟩ (.int .i64 t195))) := ⟨by repeat (first | (with_reducible first | exact HB.out | apply below_alloc | apply pw_below_drewN | apply below_drew1 | refine below_set ?_ GE184.out | refine below_set ?_ GE185.out | refine below_set ?_ GE193.out | refine below_set ?_ GE197.out) | exact HB.out)⟩
     (try clear BK184)
     (try clear BK185)
     (try clear BK193)
     (try clear BK197)
     (try clear HB)
     generalize ((w25.setCell ⟨gb197, 0, none⟩ (.bool t194)).setCell ⟨gb197, 1, none⟩ (.int .i64 t195)) = w39 at n0_ n1_ n2_ n3_ n4_ ⊢
     have BK184 := n0_
     have BK185 := n1_
     have BK193 := n2_
     have BK197 := n3_
     have HB := n4_
     clear n0_ n1_ n2_ n3_ n4_
     replace BK184 := Aside0.mk (blk_drew BK184.out); replace BK185 := Aside0.mk (blk_drew BK185.out); replace BK193 := Aside0.mk (blk_drew BK193.out); replace BK197 := Aside0.mk (blk_drew BK197.out); replace HB := Aside0.mk (below_drew1 HB.out)
     refine start_ (n := 26) (S := fun w' => w'.cell? ⟨gb193, 0, none⟩ = some (.bool t190) ∧ w'.cell? ⟨gb193, 1, none⟩ = some (.int .i64 t191) ∧ w'.cell? ⟨gb197, 0, none⟩ = some (.bool t194) ∧ w'.cell? ⟨gb197, 1, none⟩ = some (.int .i64 t195)) (ds := []) #[false, false, false, false, false, false, false, false, false, false, false, false, false, false, false, false, false, false, false, false, false, false, false, false, false, false] (by kernel_rfl) rfl rfl ⟨bc BK193 0 rfl, bc BK193 1 rfl, bc BK197 0 rfl, bc BK197 1 rfl⟩ (fun hHeld => ?_); refine with_tabW avermentlaw09_KnownSets.tab3 avermentlaw09_KnownSets.bits3 (fun HT_ HW_ => ?_)
     generalize w39.drew = w40 at BK184 BK185 BK193 BK197 HB hHeld ⊢
     refine one_ (i := 0) (N := some 25) #[true, false, false, false, false, false, false, false, false, false, false, false, false, false, false, false, false, false, false, false, false, false, false, false, false, false] rfl rfl (one_of HT_.out (by kernel_rfl)) (by decide) (fun K hK => ?_)
     refine goes_ Try.func16 (by kernel_rfl) rfl #[] (by rfl) rfl rfl (mapq rfl) ?_
     with_reducible refine (avermentlaw09_told.calls k  true _ A30.out).mono ?_
     rintro e w41 ⟨rfl, hb⟩
     refine ⟨_, rfl, ?_⟩
     replace BK184 := bb BK184 hb rfl; replace BK185 := bb BK185 hb rfl; replace BK193 := bb BK193 hb rfl; replace BK197 := bb BK197 hb rfl; replace HB := hst HB hb rfl
     (try clear hb)
     refine hK.out _ _ ⟨bc BK193 0 rfl, bc BK193 1 rfl, bc BK197 0 rfl, bc BK197 1 rfl⟩ (fun hHeld => ?_)
     clear hK K
     refine norm_ (a' := ?_) ?_ ?_
     rotate_left; · (show Act.put _ (some 25) _ = _; simp only [Act.put, List.setIfInBounds_toArray, List.set_cons_zero, List.set_cons_succ, i64_w, i32_w]; rfl)
     refine pure_ (i := 1) (N := some 26) (v := ?_) (a' := ?_) #[true, true, false, false, false, false, false, false, false, false, false, false, false, false, false, false, false, false, false, false, false, false, false, false, false, false] rfl rfl (any_of HT_.out (by kernel_rfl)) (fun _ _ _ h => h) (Or.inl ⟨by rfl, ?_⟩) ?_ ?_
     rotate_left; · (intro w'; go_simp; with_reducible rfl)
     rotate_left; · (simp only [Act.put, List.setIfInBounds_toArray, List.set_cons_zero, List.set_cons_succ, i64_w, i32_w]; rfl)
     refine pure_ (i := 2) (N := some 27) (v := ?_) (a' := ?_) #[true, true, true, false, false, false, false, false, false, false, false, false, false, false, false, false, false, false, false, false, false, false, false, false, false, false] rfl rfl (any_of HT_.out (by kernel_rfl)) (fun _ _ _ h => h) (Or.inl ⟨by rfl, ?_⟩) ?_ ?_
     rotate_left; · (intro w'; go_simp; with_reducible rfl)
     rotate_left; · (simp only [Act.put, List.setIfInBounds_toArray, List.set_cons_zero, List.set_cons_succ, i64_w, i32_w]; rfl)
     refine take_ (i := 3) (N := some 28) (v := ?_) (a' := ?_) #[true, true, true, true, false, false, false, false, false, false, false, false, false, false, false, false, false, false, false, false, false, false, false, false, false, false] rfl rfl (take_ofW HT_.out HW_.out (by kernel_rfl)) (fun _ _ _ h => h) (Or.inl ⟨by rfl, ?_⟩) hHeld ?_ ?_
     rotate_left
     ·
      rintro w' ⟨s0, s1, s2, s3⟩
      go_simp
      with_reducible rfl
     rotate_left
     ·
      simp only [Act.put, List.setIfInBounds_toArray, List.set_cons_zero, List.set_cons_succ, i64_w, i32_w]
      rfl
     refine take_ (i := 5) (N := some 30) (v := ?_) (a' := ?_) #[true, true, true, true, false, true, false, false, false, false, false, false, false, false, false, false, false, false, false, false, false, false, false, false, false, false] rfl rfl (take_ofW HT_.out HW_.out (by kernel_rfl)) (fun _ _ _ h => h) (Or.inl ⟨by rfl, ?_⟩) hHeld ?_ ?_
     rotate_left
     ·
      rintro w' ⟨s0, s1, s2, s3⟩
      go_simp
      with_reducible rfl
     rotate_left
     ·
      simp only [Act.put, List.setIfInBounds_toArray, List.set_cons_zero, List.set_cons_succ, i64_w, i32_w]
      rfl
     refine one_ (i := 4) (N := some 29) #[true, true, true, true, true, true, false, false, false, false, false, false, false, false, false, false, false, false, false, false, false, false, false, false, false, false] rfl rfl (one_of HT_.out (by kernel_rfl)) (by decide) (fun K hK => ?_)
     refine goes_ Try.func17 (by kernel_rfl) rfl #[.agg #[.bool t190, .int .i64 t191]] (by rfl) rfl rfl (mapq rfl) ?_
     with_reducible refine (avermentlaw09_From.calls t190 t191 t199 t200 _ A32.out).mono ?_
     rintro e w42 ⟨rfl, hb⟩
     refine ⟨_, rfl, ?_⟩
     replace BK184 := bb BK184 hb rfl; replace BK185 := bb BK185 hb rfl; replace BK193 := bb BK193 hb rfl; replace BK197 := bb BK197 hb rfl; replace HB := hst HB hb rfl
     (try clear hb)
     refine hK.out _ _ ⟨bc BK193 0 rfl, bc BK193 1 rfl, bc BK197 0 rfl, bc BK197 1 rfl⟩ (fun hHeld => ?_)
     clear hK K
     refine norm_ (a' := ?_) ?_ ?_
     rotate_left; · (show Act.put _ (some 29) _ = _; simp only [Act.put, List.setIfInBounds_toArray, List.set_cons_zero, List.set_cons_succ, i64_w, i32_w]; rfl)
     refine pure_ (i := 6) (N := some 31) (v := ?_) (a' := ?_) #[true, true, true, true, true, true, true, false, false, false, false, false, false, false, false, false, false, false, false, false, false, false, false, false, false, false] rfl rfl (any_of HT_.out (by kernel_rfl)) (fun _ _ _ h => h) (Or.inl ⟨by rfl, ?_⟩) ?_ ?_
     rotate_left; · (intro w'; go_simp; with_reducible rfl)
     rotate_left; · (simp only [Act.put, List.setIfInBounds_toArray, List.set_cons_zero, List.set_cons_succ, i64_w, i32_w]; rfl)
     refine pure_ (i := 7) (N := some 32) (v := ?_) (a' := ?_) #[true, true, true, true, true, true, true, true, false, false, false, false, false, false, false, false, false, false, false, false, false, false, false, false, false, false] rfl rfl (any_of HT_.out (by kernel_rfl)) (fun _ _ _ h => h) (Or.inl ⟨by rfl, ?_⟩) ?_ ?_
     rotate_left; · (intro w'; go_simp; with_reducible rfl)
     rotate_left; · (simp only [Act.put, List.setIfInBounds_toArray, List.set_cons_zero, List.set_cons_succ, i64_w, i32_w]; rfl)
     refine pure_ (i := 8) (N := some 33) (v := ?_) (a' := ?_) #[true, true, true, true, true, true, true, true, true, false, false, false, false, false, false, false, false, false, false, false, false, false, false, false, false, false] rfl rfl (any_of HT_.out (by kernel_rfl)) (fun _ _ _ h => h) (Or.inl ⟨by rfl, ?_⟩) ?_ ?_
     rotate_left; · (intro w'; go_simp; with_reducible rfl)
     rotate_left; · (simp only [Act.put, List.setIfInBounds_toArray, List.set_cons_zero, List.set_cons_succ, i64_w, i32_w]; rfl)
     refine pure_ (i := 9) (N := some 34) (v := ?_) (a' := ?_) #[true, true, true, true, true, true, true, true, true, true, false, false, false, false, false, false, false, false, false, false, false, false, false, false, false, false] rfl rfl (any_of HT_.out (by kernel_rfl)) (fun _ _ _ h => h) (Or.inl ⟨by rfl, ?_⟩) ?_ ?_
     rotate_left; · (intro w'; go_simp; with_reducible rfl)
     rotate_left; · (simp only [Act.put, List.setIfInBounds_toArray, List.set_cons_zero, List.set_cons_succ, i64_w, i32_w]; rfl)
     refine pure_ (i := 10) (N := some 35) (v := ?_) (a' := ?_) #[true, true, true, true, true, true, true, true, true, true, true, false, false, false, false, false, false, false, false, false, false, false, false, false, false, false] rfl rfl (any_of HT_.out (by kernel_rfl)) (fun _ _ _ h => h) (Or.inl ⟨by rfl, ?_⟩) ?_ ?_
     rotate_left; · (intro w'; go_simp; with_reducible rfl)
     rotate_left; · (simp only [Act.put, List.setIfInBounds_toArray, List.set_cons_zero, List.set_cons_succ, i64_w, i32_w]; rfl)
     refine pure_ (i := 11) (N := some 36) (v := ?_) (a' := ?_) #[true, true, true, true, true, true, true, true, true, true, true, true, false, false, false, false, false, false, false, false, false, false, false, false, false, false] rfl rfl (any_of HT_.out (by kernel_rfl)) (fun _ _ _ h => h) (Or.inl ⟨by rfl, ?_⟩) ?_ ?_
     rotate_left; · (intro w'; go_simp; with_reducible rfl)
     rotate_left; · (simp only [Act.put, List.setIfInBounds_toArray, List.set_cons_zero, List.set_cons_succ, i64_w, i32_w]; rfl)
     refine pure_ (i := 12) (N := some 37) (v := ?_) (a' := ?_) #[true, true, true, true, true, true, true, true, true, true, true, true, true, false, false, false, false, false, false, false, false, false, false, false, false, false] rfl rfl (any_of HT_.out (by kernel_rfl)) (fun _ _ _ h => h) (Or.inl ⟨by rfl, ?_⟩) ?_ ?_
     rotate_left; · (intro w'; go_simp; with_reducible rfl)
     rotate_left; · (simp only [Act.put, List.setIfInBounds_toArray, List.set_cons_zero, List.set_cons_succ, i64_w, i32_w]; rfl)
     refine pure_ (i := 13) (N := some 38) (v := ?_) (a' := ?_) #[true, true, true, true, true, true, true, true, true, true, true, true, true, true, false, false, false, false, false, false, false, false, false, false, false, false] rfl rfl (any_of HT_.out (by kernel_rfl)) (fun _ _ _ h => h) (Or.inl ⟨by rfl, ?_⟩) ?_ ?_
     rotate_left; · (intro w'; go_simp; with_reducible rfl)
     rotate_left; · (simp only [Act.put, List.setIfInBounds_toArray, List.set_cons_zero, List.set_cons_succ, i64_w, i32_w]; rfl)
     refine pure_ (i := 14) (N := some 39) (v := undef) (a' := ?_) #[true, true, true, true, true, true, true, true, true, true, true, true, true, true, true, false, false, false, false, false, false, false, false, false, false, false] rfl rfl (any_of HT_.out (by kernel_rfl)) (fun _ _ _ h => h) (Or.inr ⟨by rfl, rfl⟩) ?_ ?_
     rotate_left
     ·
      simp only [Act.put, List.setIfInBounds_toArray, List.set_cons_zero, List.set_cons_succ, i64_w, i32_w]
      rfl
     refine pure_ (i := 15) (N := some 40) (v := undef) (a' := ?_) #[true, true, true, true, true, true, true, true, true, true, true, true, true, true, true, true, false, false, false, false, false, false, false, false, false, false] rfl rfl (any_of HT_.out (by kernel_rfl)) (fun _ _ _ h => h) (Or.inr ⟨by rfl, rfl⟩) ?_ ?_
     rotate_left
     ·
      simp only [Act.put, List.setIfInBounds_toArray, List.set_cons_zero, List.set_cons_succ, i64_w, i32_w]
      rfl
     refine pure_ (i := 16) (N := some 41) (v := undef) (a' := ?_) #[true, true, true, true, true, true, true, true, true, true, true, true, true, true, true, true, true, false, false, false, false, false, false, false, false, false] rfl rfl (any_of HT_.out (by kernel_rfl)) (fun _ _ _ h => h) (Or.inr ⟨by rfl, rfl⟩) ?_ ?_
     rotate_left
     ·
      simp only [Act.put, List.setIfInBounds_toArray, List.set_cons_zero, List.set_cons_succ, i64_w, i32_w]
      rfl
     refine pure_ (i := 17) (N := some 42) (v := undef) (a' := ?_) #[true, true, true, true, true, true, true, true, true, true, true, true, true, true, true, true, true, true, false, false, false, false, false, false, false, false] rfl rfl (any_of HT_.out (by kernel_rfl)) (fun _ _ _ h => h) (Or.inr ⟨by rfl, rfl⟩) ?_ ?_
     rotate_left
     ·
      simp only [Act.put, List.setIfInBounds_toArray, List.set_cons_zero, List.set_cons_succ, i64_w, i32_w]
      rfl
     refine pure_ (i := 18) (N := some 43) (v := undef) (a' := ?_) #[true, true, true, true, true, true, true, true, true, true, true, true, true, true, true, true, true, true, true, false, false, false, false, false, false, false] rfl rfl (any_of HT_.out (by kernel_rfl)) (fun _ _ _ h => h) (Or.inr ⟨by rfl, rfl⟩) ?_ ?_
     rotate_left
     ·
      simp only [Act.put, List.setIfInBounds_toArray, List.set_cons_zero, List.set_cons_succ, i64_w, i32_w]
      rfl
     refine pure_ (i := 19) (N := some 44) (v := undef) (a' := ?_) #[true, true, true, true, true, true, true, true, true, true, true, true, true, true, true, true, true, true, true, true, false, false, false, false, false, false] rfl rfl (any_of HT_.out (by kernel_rfl)) (fun _ _ _ h => h) (Or.inr ⟨by rfl, rfl⟩) ?_ ?_
     rotate_left
     ·
      simp only [Act.put, List.setIfInBounds_toArray, List.set_cons_zero, List.set_cons_succ, i64_w, i32_w]
      rfl
     refine pure_ (i := 20) (N := some 45) (v := undef) (a' := ?_) #[true, true, true, true, true, true, true, true, true, true, true, true, true, true, true, true, true, true, true, true, true, false, false, false, false, false] rfl rfl (any_of HT_.out (by kernel_rfl)) (fun _ _ _ h => h) (Or.inr ⟨by rfl, rfl⟩) ?_ ?_
     rotate_left
     ·
      simp only [Act.put, List.setIfInBounds_toArray, List.set_cons_zero, List.set_cons_succ, i64_w, i32_w]
      rfl
     refine pure_ (i := 21) (N := some 46) (v := undef) (a' := ?_) #[true, true, true, true, true, true, true, true, true, true, true, true, true, true, true, true, true, true, true, true, true, true, false, false, false, false] rfl rfl (any_of HT_.out (by kernel_rfl)) (fun _ _ _ h => h) (Or.inr ⟨by rfl, rfl⟩) ?_ ?_
     rotate_left
     ·
      simp only [Act.put, List.setIfInBounds_toArray, List.set_cons_zero, List.set_cons_succ, i64_w, i32_w]
      rfl
     refine pure_ (i := 22) (N := some 47) (v := undef) (a' := ?_) #[true, true, true, true, true, true, true, true, true, true, true, true, true, true, true, true, true, true, true, true, true, true, true, false, false, false] rfl rfl (any_of HT_.out (by kernel_rfl)) (fun _ _ _ h => h) (Or.inr ⟨by rfl, rfl⟩) ?_ ?_
     rotate_left
     ·
      simp only [Act.put, List.setIfInBounds_toArray, List.set_cons_zero, List.set_cons_succ, i64_w, i32_w]
      rfl
     refine pure_ (i := 23) (N := some 48) (v := undef) (a' := ?_) #[true, true, true, true, true, true, true, true, true, true, true, true, true, true, true, true, true, true, true, true, true, true, true, true, false, false] rfl rfl (any_of HT_.out (by kernel_rfl)) (fun _ _ _ h => h) (Or.inr ⟨by rfl, rfl⟩) ?_ ?_
     rotate_left
     ·
      simp only [Act.put, List.setIfInBounds_toArray, List.set_cons_zero, List.set_cons_succ, i64_w, i32_w]
      rfl
     refine pure_ (i := 24) (N := some 49) (v := undef) (a' := ?_) #[true, true, true, true, true, true, true, true, true, true, true, true, true, true, true, true, true, true, true, true, true, true, true, true, true, false] rfl rfl (any_of HT_.out (by kernel_rfl)) (fun _ _ _ h => h) (Or.inr ⟨by rfl, rfl⟩) ?_ ?_
     rotate_left
     ·
      simp only [Act.put, List.setIfInBounds_toArray, List.set_cons_zero, List.set_cons_succ, i64_w, i32_w]
      rfl
     refine pure_ (i := 25) (N := some 50) (v := ?_) (a' := ?_) #[true, true, true, true, true, true, true, true, true, true, true, true, true, true, true, true, true, true, true, true, true, true, true, true, true, true] rfl rfl (any_of HT_.out (by kernel_rfl)) (fun _ _ _ h => h) (Or.inl ⟨by rfl, ?_⟩) ?_ ?_
     rotate_left; · (intro w'; go_simp; with_reducible rfl)
     rotate_left; · (simp only [Act.put, List.setIfInBounds_toArray, List.set_cons_zero, List.set_cons_succ, i64_w, i32_w]; rfl)
     refine done_ (done_of HT_.out (by kernel_rfl)) ?_
     try go_wp2
     go_meet
     case rel => exact ⟨_, (true), (by first | rfl | (simp; done) | (simp [*]; done)), H', ⟨by first | omega | exact Nat.le_refl _⟩, ⟨by (with_reducible repeat (first | refine blk_drewN ?_ _ | refine blk_drew ?_ | refine blk_alloc ?_ _)); exact BK184.out⟩, ⟨by (with_reducible repeat (first | refine blk_drewN ?_ _ | refine blk_drew ?_ | refine blk_alloc ?_ _)); exact BK185.out⟩, ⟨by (with_reducible repeat (first | refine blk_drewN ?_ _ | refine blk_drew ?_ | refine blk_alloc ?_ _)); exact BK193.out⟩, ⟨by (with_reducible repeat (first | refine blk_drewN ?_ _ | refine blk_drew ?_ | refine blk_alloc ?_ _)); exact BK197.out⟩, ⟨by repeat (first | (with_reducible first | exact HB.out | apply below_alloc | apply pw_below_drewN | apply below_drew1 | refine below_set ?_ GE184.out | refine below_set ?_ GE185.out | refine below_set ?_ GE193.out | refine below_set ?_ GE197.out) | exact HB.out)⟩⟩
    ·
     rw [if_neg c38] at H
     have c38b0 : (t192 != t196) = false := by simpa using c38
     (try (have c38b1 : decide (t192 = t196) = true := by simpa using c38))
     (try (have c38b2 : (t192 == t196) = true := by simpa using c38))
     clear c38
     replace H := Option.bind_eq_some_iff.mp H
     obtain ⟨⟨t201, t202⟩, A430, H⟩ := H
     (try dsimp only at H)
     have A43 := Aside0.mk A430
     clear A430
     replace H := Option.bind_eq_some_iff.mp H
     obtain ⟨t203, A440, H⟩ := H
     (try dsimp only at H)
     have A44 := Aside0.mk A440
     clear A440
     by_cases c45 : a0_0 = true
     ·
      subst c45
      rw [if_pos rfl] at H
      have H' := Aside0.mk H
      clear H
      try go_wp2
      have n0_ : Aside0 (((w25.setCell ⟨gb197, 0, none⟩ (.bool t194)).setCell ⟨gb197, 1, none⟩ (.int .i64 t195)).heap[gb184]? = some (.cells #[.bool true, .int .i64 a0_1] 23 (0, 0))) := ⟨by (with_reducible repeat (first | refine blk_drewN ?_ _ | refine blk_drew ?_ | refine blk_alloc ?_ _)); refine blk_far ?_ NB184_197.out _; (with_reducible repeat (first | refine blk_drewN ?_ _ | refine blk_drew ?_ | refine blk_alloc ?_ _)); refine blk_far ?_ NB184_197.out _; (with_reducible repeat (first | refine blk_drewN ?_ _ | refine blk_drew ?_ | refine blk_alloc ?_ _)); exact BK184.out⟩
      have n1_ : Aside0 (((w25.setCell ⟨gb197, 0, none⟩ (.bool t194)).setCell ⟨gb197, 1, none⟩ (.int .i64 t195)).heap[gb185]? = some (.cells #[.bool a1_0, .int .i64 a1_1] 23 (0, 0))) := ⟨by (with_reducible repeat (first | refine blk_drewN ?_ _ | refine blk_drew ?_ | refine blk_alloc ?_ _)); refine blk_far ?_ NB185_197.out _; (with_reducible repeat (first | refine blk_drewN ?_ _ | refine blk_drew ?_ | refine blk_alloc ?_ _)); refine blk_far ?_ NB185_197.out _; (with_reducible repeat (first | refine blk_drewN ?_ _ | refine blk_drew ?_ | refine blk_alloc ?_ _)); exact BK185.out⟩
      have n2_ : Aside0 (((w25.setCell ⟨gb197, 0, none⟩ (.bool t194)).setCell ⟨gb197, 1, none⟩ (.int .i64 t195)).heap[gb193]? = some (.cells #[.bool t190, .int .i64 t191] 24 (0, 0))) := ⟨by (with_reducible repeat (first | refine blk_drewN ?_ _ | refine blk_drew ?_ | refine blk_alloc ?_ _)); refine blk_far ?_ NB193_197.out _; (with_reducible repeat (first | refine blk_drewN ?_ _ | refine blk_drew ?_ | refine blk_alloc ?_ _)); refine blk_far ?_ NB193_197.out _; (with_reducible repeat (first | refine blk_drewN ?_ _ | refine blk_drew ?_ | refine blk_alloc ?_ _)); exact BK193.out⟩
      have n3_ : Aside0 (((w25.setCell ⟨gb197, 0, none⟩ (.bool t194)).setCell ⟨gb197, 1, none⟩ (.int .i64 t195)).heap[gb197]? = some (.cells #[.bool t194, .int .i64 t195] 23 (0, 0))) := ⟨by (with_reducible repeat (first | refine blk_drewN ?_ _ | refine blk_drew ?_ | refine blk_alloc ?_ _)); refine blk_put (cs := #[.bool t194, .int .i64 0]) ?_ 1 _ rfl; (with_reducible repeat (first | refine blk_drewN ?_ _ | refine blk_drew ?_ | refine blk_alloc ?_ _)); refine blk_put (cs := #[.bool false, .int .i64 0]) ?_ 0 _ rfl; (with_reducible repeat (first | refine blk_drewN ?_ _ | refine blk_drew ?_ | refine blk_alloc ?_ _)); exact BK197.out⟩
      have n4_ : Aside0 (Below w.heap.size w ((w25.setCell ⟨gb197, 0, none⟩ (.bool t194)).setCell ⟨gb197, 1, none⟩ (.int .i64 t195))) := ⟨by repeat (first | (with_reducible first | exact HB.out | apply below_alloc | apply pw_below_drewN | apply below_drew1 | refine below_set ?_ GE184.out | refine below_set ?_ GE185.out | refine below_set ?_ GE193.out | refine below_set ?_ GE197.out) | exact HB.out)⟩
      (try clear BK184)
      (try clear BK185)
      (try clear BK193)
      (try clear BK197)
      (try clear HB)
      generalize ((w25.setCell ⟨gb197, 0, none⟩ (.bool t194)).setCell ⟨gb197, 1, none⟩ (.int .i64 t195)) = w46 at n0_ n1_ n2_ n3_ n4_ ⊢
      have BK184 := n0_
      have BK185 := n1_
      have BK193 := n2_
      have BK197 := n3_
      have HB := n4_
      clear n0_ n1_ n2_ n3_ n4_
      replace BK184 := Aside0.mk (blk_drew BK184.out); replace BK185 := Aside0.mk (blk_drew BK185.out); replace BK193 := Aside0.mk (blk_drew BK193.out); replace BK197 := Aside0.mk (blk_drew BK197.out); replace HB := Aside0.mk (below_drew1 HB.out)
      refine start_ (n := 26) (S := fun w' => w'.cell? ⟨gb193, 0, none⟩ = some (.bool t190) ∧ w'.cell? ⟨gb193, 1, none⟩ = some (.int .i64 t191) ∧ w'.cell? ⟨gb197, 0, none⟩ = some (.bool t194) ∧ w'.cell? ⟨gb197, 1, none⟩ = some (.int .i64 t195) ∧ w'.cell? ⟨gb184, 0, none⟩ = some (.bool true) ∧ w'.cell? ⟨gb184, 1, none⟩ = some (.int .i64 a0_1)) (ds := []) #[false, false, false, false, false, false, false, false, false, false, false, false, false, false, false, false, false, false, false, false, false, false, false, false, false, false] (by kernel_rfl) rfl rfl ⟨bc BK193 0 rfl, bc BK193 1 rfl, bc BK197 0 rfl, bc BK197 1 rfl, bc BK184 0 rfl, bc BK184 1 rfl⟩ (fun hHeld => ?_); refine with_tabW avermentlaw09_KnownSets.tab3 avermentlaw09_KnownSets.bits3 (fun HT_ HW_ => ?_)
      generalize w46.drew = w47 at BK184 BK185 BK193 BK197 HB hHeld ⊢
      refine one_ (i := 0) (N := some 25) #[true, false, false, false, false, false, false, false, false, false, false, false, false, false, false, false, false, false, false, false, false, false, false, false, false, false] rfl rfl (one_of HT_.out (by kernel_rfl)) (by decide) (fun K hK => ?_)
      refine goes_ Try.func16 (by kernel_rfl) rfl #[] (by rfl) rfl rfl (mapq rfl) ?_
      with_reducible refine (avermentlaw09_told.calls k  true _ A30.out).mono ?_
      rintro e w48 ⟨rfl, hb⟩
      refine ⟨_, rfl, ?_⟩
      replace BK184 := bb BK184 hb rfl; replace BK185 := bb BK185 hb rfl; replace BK193 := bb BK193 hb rfl; replace BK197 := bb BK197 hb rfl; replace HB := hst HB hb rfl
      (try clear hb)
      refine hK.out _ _ ⟨bc BK193 0 rfl, bc BK193 1 rfl, bc BK197 0 rfl, bc BK197 1 rfl, bc BK184 0 rfl, bc BK184 1 rfl⟩ (fun hHeld => ?_)
      clear hK K
      refine norm_ (a' := ?_) ?_ ?_
      rotate_left; · (show Act.put _ (some 25) _ = _; simp only [Act.put, List.setIfInBounds_toArray, List.set_cons_zero, List.set_cons_succ, i64_w, i32_w]; rfl)
      refine pure_ (i := 1) (N := some 26) (v := ?_) (a' := ?_) #[true, true, false, false, false, false, false, false, false, false, false, false, false, false, false, false, false, false, false, false, false, false, false, false, false, false] rfl rfl (any_of HT_.out (by kernel_rfl)) (fun _ _ _ h => h) (Or.inl ⟨by rfl, ?_⟩) ?_ ?_
      rotate_left; · (intro w'; go_simp; with_reducible rfl)
      rotate_left; · (simp only [Act.put, List.setIfInBounds_toArray, List.set_cons_zero, List.set_cons_succ, i64_w, i32_w]; rfl)
      refine pure_ (i := 2) (N := some 27) (v := ?_) (a' := ?_) #[true, true, true, false, false, false, false, false, false, false, false, false, false, false, false, false, false, false, false, false, false, false, false, false, false, false] rfl rfl (any_of HT_.out (by kernel_rfl)) (fun _ _ _ h => h) (Or.inl ⟨by rfl, ?_⟩) ?_ ?_
      rotate_left; · (intro w'; go_simp; with_reducible rfl)
      rotate_left; · (simp only [Act.put, List.setIfInBounds_toArray, List.set_cons_zero, List.set_cons_succ, i64_w, i32_w]; rfl)
      refine take_ (i := 3) (N := some 28) (v := ?_) (a' := ?_) #[true, true, true, true, false, false, false, false, false, false, false, false, false, false, false, false, false, false, false, false, false, false, false, false, false, false] rfl rfl (take_ofW HT_.out HW_.out (by kernel_rfl)) (fun _ _ _ h => h) (Or.inl ⟨by rfl, ?_⟩) hHeld ?_ ?_
      rotate_left
      ·
       rintro w' ⟨s0, s1, s2, s3, s4, s5⟩
       go_simp
       with_reducible rfl
      rotate_left
      ·
       simp only [Act.put, List.setIfInBounds_toArray, List.set_cons_zero, List.set_cons_succ, i64_w, i32_w]
       rfl
      refine take_ (i := 5) (N := some 30) (v := ?_) (a' := ?_) #[true, true, true, true, false, true, false, false, false, false, false, false, false, false, false, false, false, false, false, false, false, false, false, false, false, false] rfl rfl (take_ofW HT_.out HW_.out (by kernel_rfl)) (fun _ _ _ h => h) (Or.inl ⟨by rfl, ?_⟩) hHeld ?_ ?_
      rotate_left
      ·
       rintro w' ⟨s0, s1, s2, s3, s4, s5⟩
       go_simp
       with_reducible rfl
      rotate_left
      ·
       simp only [Act.put, List.setIfInBounds_toArray, List.set_cons_zero, List.set_cons_succ, i64_w, i32_w]
       rfl
      refine one_ (i := 4) (N := some 29) #[true, true, true, true, true, true, false, false, false, false, false, false, false, false, false, false, false, false, false, false, false, false, false, false, false, false] rfl rfl (one_of HT_.out (by kernel_rfl)) (by decide) (fun K hK => ?_)
      refine goes_ Try.func17 (by kernel_rfl) rfl #[.agg #[.bool t190, .int .i64 t191]] (by rfl) rfl rfl (mapq rfl) ?_
      with_reducible refine (avermentlaw09_From.calls t190 t191 t199 t200 _ A32.out).mono ?_
      rintro e w49 ⟨rfl, hb⟩
      refine ⟨_, rfl, ?_⟩
      replace BK184 := bb BK184 hb rfl; replace BK185 := bb BK185 hb rfl; replace BK193 := bb BK193 hb rfl; replace BK197 := bb BK197 hb rfl; replace HB := hst HB hb rfl
      (try clear hb)
      refine hK.out _ _ ⟨bc BK193 0 rfl, bc BK193 1 rfl, bc BK197 0 rfl, bc BK197 1 rfl, bc BK184 0 rfl, bc BK184 1 rfl⟩ (fun hHeld => ?_)
      clear hK K
      refine norm_ (a' := ?_) ?_ ?_
      rotate_left; · (show Act.put _ (some 29) _ = _; simp only [Act.put, List.setIfInBounds_toArray, List.set_cons_zero, List.set_cons_succ, i64_w, i32_w]; rfl)
      refine pure_ (i := 6) (N := some 31) (v := ?_) (a' := ?_) #[true, true, true, true, true, true, true, false, false, false, false, false, false, false, false, false, false, false, false, false, false, false, false, false, false, false] rfl rfl (any_of HT_.out (by kernel_rfl)) (fun _ _ _ h => h) (Or.inl ⟨by rfl, ?_⟩) ?_ ?_
      rotate_left; · (intro w'; go_simp; with_reducible rfl)
      rotate_left; · (simp only [Act.put, List.setIfInBounds_toArray, List.set_cons_zero, List.set_cons_succ, i64_w, i32_w]; rfl)
      refine pure_ (i := 7) (N := some 32) (v := ?_) (a' := ?_) #[true, true, true, true, true, true, true, true, false, false, false, false, false, false, false, false, false, false, false, false, false, false, false, false, false, false] rfl rfl (any_of HT_.out (by kernel_rfl)) (fun _ _ _ h => h) (Or.inl ⟨by rfl, ?_⟩) ?_ ?_
      rotate_left; · (intro w'; go_simp; with_reducible rfl)
      rotate_left; · (simp only [Act.put, List.setIfInBounds_toArray, List.set_cons_zero, List.set_cons_succ, i64_w, i32_w]; rfl)
      refine pure_ (i := 8) (N := some 33) (v := ?_) (a' := ?_) #[true, true, true, true, true, true, true, true, true, false, false, false, false, false, false, false, false, false, false, false, false, false, false, false, false, false] rfl rfl (any_of HT_.out (by kernel_rfl)) (fun _ _ _ h => h) (Or.inl ⟨by rfl, ?_⟩) ?_ ?_
      rotate_left; · (intro w'; go_simp; with_reducible rfl)
      rotate_left; · (simp only [Act.put, List.setIfInBounds_toArray, List.set_cons_zero, List.set_cons_succ, i64_w, i32_w]; rfl)
      refine pure_ (i := 9) (N := some 34) (v := ?_) (a' := ?_) #[true, true, true, true, true, true, true, true, true, true, false, false, false, false, false, false, false, false, false, false, false, false, false, false, false, false] rfl rfl (any_of HT_.out (by kernel_rfl)) (fun _ _ _ h => h) (Or.inl ⟨by rfl, ?_⟩) ?_ ?_
      rotate_left; · (intro w'; go_simp; with_reducible rfl)
      rotate_left; · (simp only [Act.put, List.setIfInBounds_toArray, List.set_cons_zero, List.set_cons_succ, i64_w, i32_w]; rfl)
      refine pure_ (i := 10) (N := some 35) (v := ?_) (a' := ?_) #[true, true, true, true, true, true, true, true, true, true, true, false, false, false, false, false, false, false, false, false, false, false, false, false, false, false] rfl rfl (any_of HT_.out (by kernel_rfl)) (fun _ _ _ h => h) (Or.inl ⟨by rfl, ?_⟩) ?_ ?_
      rotate_left; · (intro w'; go_simp; with_reducible rfl)
      rotate_left; · (simp only [Act.put, List.setIfInBounds_toArray, List.set_cons_zero, List.set_cons_succ, i64_w, i32_w]; rfl)
      refine pure_ (i := 11) (N := some 36) (v := ?_) (a' := ?_) #[true, true, true, true, true, true, true, true, true, true, true, true, false, false, false, false, false, false, false, false, false, false, false, false, false, false] rfl rfl (any_of HT_.out (by kernel_rfl)) (fun _ _ _ h => h) (Or.inl ⟨by rfl, ?_⟩) ?_ ?_
      rotate_left; · (intro w'; go_simp; with_reducible rfl)
      rotate_left; · (simp only [Act.put, List.setIfInBounds_toArray, List.set_cons_zero, List.set_cons_succ, i64_w, i32_w]; rfl)
      refine pure_ (i := 12) (N := some 37) (v := ?_) (a' := ?_) #[true, true, true, true, true, true, true, true, true, true, true, true, true, false, false, false, false, false, false, false, false, false, false, false, false, false] rfl rfl (any_of HT_.out (by kernel_rfl)) (fun _ _ _ h => h) (Or.inl ⟨by rfl, ?_⟩) ?_ ?_
      rotate_left; · (intro w'; go_simp; with_reducible rfl)
      rotate_left; · (simp only [Act.put, List.setIfInBounds_toArray, List.set_cons_zero, List.set_cons_succ, i64_w, i32_w]; rfl)
      refine pure_ (i := 13) (N := some 38) (v := ?_) (a' := ?_) #[true, true, true, true, true, true, true, true, true, true, true, true, true, true, false, false, false, false, false, false, false, false, false, false, false, false] rfl rfl (any_of HT_.out (by kernel_rfl)) (fun _ _ _ h => h) (Or.inl ⟨by rfl, ?_⟩) ?_ ?_
      rotate_left; · (intro w'; go_simp; with_reducible rfl)
      rotate_left; · (simp only [Act.put, List.setIfInBounds_toArray, List.set_cons_zero, List.set_cons_succ, i64_w, i32_w]; rfl)
      refine pure_ (i := 17) (N := some 42) (v := ?_) (a' := ?_) #[true, true, true, true, true, true, true, true, true, true, true, true, true, true, false, false, false, true, false, false, false, false, false, false, false, false] rfl rfl (any_of HT_.out (by kernel_rfl)) (fun _ _ _ h => h) (Or.inl ⟨by rfl, ?_⟩) ?_ ?_
      rotate_left; · (intro w'; go_simp; with_reducible rfl)
      rotate_left; · (simp only [Act.put, List.setIfInBounds_toArray, List.set_cons_zero, List.set_cons_succ, i64_w, i32_w]; rfl)
      refine take_ (i := 14) (N := some 39) (v := ?_) (a' := ?_) #[true, true, true, true, true, true, true, true, true, true, true, true, true, true, true, false, false, true, false, false, false, false, false, false, false, false] rfl rfl (take_ofW HT_.out HW_.out (by kernel_rfl)) (fun _ _ _ h => h) (Or.inl ⟨by rfl, ?_⟩) hHeld ?_ ?_
      rotate_left
      ·
       rintro w' ⟨s0, s1, s2, s3, s4, s5⟩
       go_simp
       with_reducible rfl
      rotate_left
      ·
       simp only [Act.put, List.setIfInBounds_toArray, List.set_cons_zero, List.set_cons_succ, i64_w, i32_w]
       rfl
      refine take_ (i := 18) (N := some 43) (v := ?_) (a' := ?_) #[true, true, true, true, true, true, true, true, true, true, true, true, true, true, true, false, false, true, true, false, false, false, false, false, false, false] rfl rfl (take_ofW HT_.out HW_.out (by kernel_rfl)) (fun _ _ _ h => h) (Or.inl ⟨by rfl, ?_⟩) hHeld ?_ ?_
      rotate_left
      ·
       rintro w' ⟨s0, s1, s2, s3, s4, s5⟩
       go_simp
       with_reducible rfl
      rotate_left
      ·
       simp only [Act.put, List.setIfInBounds_toArray, List.set_cons_zero, List.set_cons_succ, i64_w, i32_w]
       rfl
      refine one_ (i := 15) (N := some 40) #[true, true, true, true, true, true, true, true, true, true, true, true, true, true, true, true, false, true, true, false, false, false, false, false, false, false] rfl rfl (one_of HT_.out (by kernel_rfl)) (by decide) (fun K hK => ?_)
      refine goes_ Try.func14 (by kernel_rfl) rfl #[.agg #[.bool true, .int .i64 a0_1]] (by rfl) rfl rfl (mapq rfl) ?_
      with_reducible refine (avermentlaw09_To.calls true a0_1 t201 t202 _ A43.out).mono ?_
      rintro e w50 ⟨rfl, hb⟩
      refine ⟨_, rfl, ?_⟩
      replace BK184 := bb BK184 hb rfl; replace BK185 := bb BK185 hb rfl; replace BK193 := bb BK193 hb rfl; replace BK197 := bb BK197 hb rfl; replace HB := hst HB hb rfl
      (try clear hb)
      refine hK.out _ _ ⟨bc BK193 0 rfl, bc BK193 1 rfl, bc BK197 0 rfl, bc BK197 1 rfl, bc BK184 0 rfl, bc BK184 1 rfl⟩ (fun hHeld => ?_)
      clear hK K
      refine norm_ (a' := ?_) ?_ ?_
      rotate_left; · (show Act.put _ (some 40) _ = _; simp only [Act.put, List.setIfInBounds_toArray, List.set_cons_zero, List.set_cons_succ, i64_w, i32_w]; rfl)
      refine one_ (i := 16) (N := some 41) #[true, true, true, true, true, true, true, true, true, true, true, true, true, true, true, true, true, true, true, false, false, false, false, false, false, false] rfl rfl (one_of HT_.out (by kernel_rfl)) (by decide) (fun K hK => ?_)
      refine goes_ Try.func18 (by kernel_rfl) rfl #[.agg #[.bool t201, .int .i64 t202]] (by rfl) rfl rfl (mapq rfl) ?_
      with_reducible refine (known_Right.calls t201 t202 t203 _ A44.out).mono ?_
      rintro e w51 ⟨rfl, hb⟩
      refine ⟨_, rfl, ?_⟩
      replace BK184 := bb BK184 hb rfl; replace BK185 := bb BK185 hb rfl; replace BK193 := bb BK193 hb rfl; replace BK197 := bb BK197 hb rfl; replace HB := hst HB hb rfl
      (try clear hb)
      refine hK.out _ _ ⟨bc BK193 0 rfl, bc BK193 1 rfl, bc BK197 0 rfl, bc BK197 1 rfl, bc BK184 0 rfl, bc BK184 1 rfl⟩ (fun hHeld => ?_)
      clear hK K
      refine norm_ (a' := ?_) ?_ ?_
      rotate_left; · (show Act.put _ (some 41) _ = _; simp only [Act.put, List.setIfInBounds_toArray, List.set_cons_zero, List.set_cons_succ, i64_w, i32_w]; rfl)
      refine pure_ (i := 19) (N := some 44) (v := ?_) (a' := ?_) #[true, true, true, true, true, true, true, true, true, true, true, true, true, true, true, true, true, true, true, true, false, false, false, false, false, false] rfl rfl (any_of HT_.out (by kernel_rfl)) (fun _ _ _ h => h) (Or.inl ⟨by rfl, ?_⟩) ?_ ?_
      rotate_left; · (intro w'; go_simp; with_reducible rfl)
      rotate_left; · (simp only [Act.put, List.setIfInBounds_toArray, List.set_cons_zero, List.set_cons_succ, i64_w, i32_w]; rfl)
      refine pure_ (i := 20) (N := some 45) (v := undef) (a' := ?_) #[true, true, true, true, true, true, true, true, true, true, true, true, true, true, true, true, true, true, true, true, true, false, false, false, false, false] rfl rfl (any_of HT_.out (by kernel_rfl)) (fun _ _ _ h => h) (Or.inr ⟨by rfl, rfl⟩) ?_ ?_
      rotate_left
      ·
       simp only [Act.put, List.setIfInBounds_toArray, List.set_cons_zero, List.set_cons_succ, i64_w, i32_w]
       rfl
      refine pure_ (i := 21) (N := some 46) (v := undef) (a' := ?_) #[true, true, true, true, true, true, true, true, true, true, true, true, true, true, true, true, true, true, true, true, true, true, false, false, false, false] rfl rfl (any_of HT_.out (by kernel_rfl)) (fun _ _ _ h => h) (Or.inr ⟨by rfl, rfl⟩) ?_ ?_
      rotate_left
      ·
       simp only [Act.put, List.setIfInBounds_toArray, List.set_cons_zero, List.set_cons_succ, i64_w, i32_w]
       rfl
      refine pure_ (i := 22) (N := some 47) (v := undef) (a' := ?_) #[true, true, true, true, true, true, true, true, true, true, true, true, true, true, true, true, true, true, true, true, true, true, true, false, false, false] rfl rfl (any_of HT_.out (by kernel_rfl)) (fun _ _ _ h => h) (Or.inr ⟨by rfl, rfl⟩) ?_ ?_
      rotate_left
      ·
       simp only [Act.put, List.setIfInBounds_toArray, List.set_cons_zero, List.set_cons_succ, i64_w, i32_w]
       rfl
      refine pure_ (i := 23) (N := some 48) (v := ?_) (a' := ?_) #[true, true, true, true, true, true, true, true, true, true, true, true, true, true, true, true, true, true, true, true, true, true, true, true, false, false] rfl rfl (any_of HT_.out (by kernel_rfl)) (fun _ _ _ h => h) (Or.inl ⟨by rfl, ?_⟩) ?_ ?_
      rotate_left; · (intro w'; go_simp; with_reducible rfl)
      rotate_left; · (simp only [Act.put, List.setIfInBounds_toArray, List.set_cons_zero, List.set_cons_succ, i64_w, i32_w]; rfl)
      refine pure_ (i := 24) (N := some 49) (v := ?_) (a' := ?_) #[true, true, true, true, true, true, true, true, true, true, true, true, true, true, true, true, true, true, true, true, true, true, true, true, true, false] rfl rfl (any_of HT_.out (by kernel_rfl)) (fun _ _ _ h => h) (Or.inl ⟨by rfl, ?_⟩) ?_ ?_
      rotate_left; · (intro w'; go_simp; with_reducible rfl)
      rotate_left; · (simp only [Act.put, List.setIfInBounds_toArray, List.set_cons_zero, List.set_cons_succ, i64_w, i32_w]; rfl)
      refine pure_ (i := 25) (N := some 50) (v := ?_) (a' := ?_) #[true, true, true, true, true, true, true, true, true, true, true, true, true, true, true, true, true, true, true, true, true, true, true, true, true, true] rfl rfl (any_of HT_.out (by kernel_rfl)) (fun _ _ _ h => h) (Or.inl ⟨by rfl, ?_⟩) ?_ ?_
      rotate_left; · (intro w'; go_simp; with_reducible rfl)
      rotate_left; · (simp only [Act.put, List.setIfInBounds_toArray, List.set_cons_zero, List.set_cons_succ, i64_w, i32_w]; rfl)
      refine done_ (done_of HT_.out (by kernel_rfl)) ?_
      try go_wp2
      go_meet
      case rel => exact ⟨_, ((t203 != true)), (by first | rfl | (simp; done) | (simp [*]; done)), H', ⟨by first | omega | exact Nat.le_refl _⟩, ⟨by (with_reducible repeat (first | refine blk_drewN ?_ _ | refine blk_drew ?_ | refine blk_alloc ?_ _)); exact BK184.out⟩, ⟨by (with_reducible repeat (first | refine blk_drewN ?_ _ | refine blk_drew ?_ | refine blk_alloc ?_ _)); exact BK185.out⟩, ⟨by (with_reducible repeat (first | refine blk_drewN ?_ _ | refine blk_drew ?_ | refine blk_alloc ?_ _)); exact BK193.out⟩, ⟨by (with_reducible repeat (first | refine blk_drewN ?_ _ | refine blk_drew ?_ | refine blk_alloc ?_ _)); exact BK197.out⟩, ⟨by repeat (first | (with_reducible first | exact HB.out | apply below_alloc | apply pw_below_drewN | apply below_drew1 | refine below_set ?_ GE184.out | refine below_set ?_ GE185.out | refine below_set ?_ GE193.out | refine below_set ?_ GE197.out) | exact HB.out)⟩⟩
     ·
      replace c45 := Bool.eq_false_iff.mpr c45
      subst c45
      rw [if_neg (show ¬ (false = true) by decide)] at H
      have H' := Aside0.mk H
      clear H
      try go_wp2
      have n0_ : Aside0 (((w25.setCell ⟨gb197, 0, none⟩ (.bool t194)).setCell ⟨gb197, 1, none⟩ (.int .i64 t195)).heap[gb184]? = some (.cells #[.bool false, .int .i64 a0_1] 23 (0, 0))) := ⟨by (with_reducible repeat (first | refine blk_drewN ?_ _ | refine blk_drew ?_ | refine blk_alloc ?_ _)); refine blk_far ?_ NB184_197.out _; (with_reducible repeat (first | refine blk_drewN ?_ _ | refine blk_drew ?_ | refine blk_alloc ?_ _)); refine blk_far ?_ NB184_197.out _; (with_reducible repeat (first | refine blk_drewN ?_ _ | refine blk_drew ?_ | refine blk_alloc ?_ _)); exact BK184.out⟩
      have n1_ : Aside0 (((w25.setCell ⟨gb197, 0, none⟩ (.bool t194)).setCell ⟨gb197, 1, none⟩ (.int .i64 t195)).heap[gb185]? = some (.cells #[.bool a1_0, .int .i64 a1_1] 23 (0, 0))) := ⟨by (with_reducible repeat (first | refine blk_drewN ?_ _ | refine blk_drew ?_ | refine blk_alloc ?_ _)); refine blk_far ?_ NB185_197.out _; (with_reducible repeat (first | refine blk_drewN ?_ _ | refine blk_drew ?_ | refine blk_alloc ?_ _)); refine blk_far ?_ NB185_197.out _; (with_reducible repeat (first | refine blk_drewN ?_ _ | refine blk_drew ?_ | refine blk_alloc ?_ _)); exact BK185.out⟩
      have n2_ : Aside0 (((w25.setCell ⟨gb197, 0, none⟩ (.bool t194)).setCell ⟨gb197, 1, none⟩ (.int .i64 t195)).heap[gb193]? = some (.cells #[.bool t190, .int .i64 t191] 24 (0, 0))) := ⟨by (with_reducible repeat (first | refine blk_drewN ?_ _ | refine blk_drew ?_ | refine blk_alloc ?_ _)); refine blk_far ?_ NB193_197.out _; (with_reducible repeat (first | refine blk_drewN ?_ _ | refine blk_drew ?_ | refine blk_alloc ?_ _)); refine blk_far ?_ NB193_197.out _; (with_reducible repeat (first | refine blk_drewN ?_ _ | refine blk_drew ?_ | refine blk_alloc ?_ _)); exact BK193.out⟩
      have n3_ : Aside0 (((w25.setCell ⟨gb197, 0, none⟩ (.bool t194)).setCell ⟨gb197, 1, none⟩ (.int .i64 t195)).heap[gb197]? = some (.cells #[.bool t194, .int .i64 t195] 23 (0, 0))) := ⟨by (with_reducible repeat (first | refine blk_drewN ?_ _ | refine blk_drew ?_ | refine blk_alloc ?_ _)); refine blk_put (cs := #[.bool t194, .int .i64 0]) ?_ 1 _ rfl; (with_reducible repeat (first | refine blk_drewN ?_ _ | refine blk_drew ?_ | refine blk_alloc ?_ _)); refine blk_put (cs := #[.bool false, .int .i64 0]) ?_ 0 _ rfl; (with_reducible repeat (first | refine blk_drewN ?_ _ | refine blk_drew ?_ | refine blk_alloc ?_ _)); exact BK197.out⟩
      have n4_ : Aside0 (Below w.heap.size w ((w25.setCell ⟨gb197, 0, none⟩ (.bool t194)).setCell ⟨gb197, 1, none⟩ (.int .i64 t195))) := ⟨by repeat (first | (with_reducible first | exact HB.out | apply below_alloc | apply pw_below_drewN | apply below_drew1 | refine below_set ?_ GE184.out | refine below_set ?_ GE185.out | refine below_set ?_ GE193.out | refine below_set ?_ GE197.out) | exact HB.out)⟩
      (try clear BK184)
      (try clear BK185)
      (try clear BK193)
      (try clear BK197)
      (try clear HB)
      generalize ((w25.setCell ⟨gb197, 0, none⟩ (.bool t194)).setCell ⟨gb197, 1, none⟩ (.int .i64 t195)) = w52 at n0_ n1_ n2_ n3_ n4_ ⊢
      have BK184 := n0_
      have BK185 := n1_
      have BK193 := n2_
      have BK197 := n3_
      have HB := n4_
      clear n0_ n1_ n2_ n3_ n4_
      replace BK184 := Aside0.mk (blk_drew BK184.out); replace BK185 := Aside0.mk (blk_drew BK185.out); replace BK193 := Aside0.mk (blk_drew BK193.out); replace BK197 := Aside0.mk (blk_drew BK197.out); replace HB := Aside0.mk (below_drew1 HB.out)
      refine start_ (n := 26) (S := fun w' => w'.cell? ⟨gb193, 0, none⟩ = some (.bool t190) ∧ w'.cell? ⟨gb193, 1, none⟩ = some (.int .i64 t191) ∧ w'.cell? ⟨gb197, 0, none⟩ = some (.bool t194) ∧ w'.cell? ⟨gb197, 1, none⟩ = some (.int .i64 t195) ∧ w'.cell? ⟨gb184, 0, none⟩ = some (.bool false) ∧ w'.cell? ⟨gb184, 1, none⟩ = some (.int .i64 a0_1)) (ds := []) #[false, false, false, false, false, false, false, false, false, false, false, false, false, false, false, false, false, false, false, false, false, false, false, false, false, false] (by kernel_rfl) rfl rfl ⟨bc BK193 0 rfl, bc BK193 1 rfl, bc BK197 0 rfl, bc BK197 1 rfl, bc BK184 0 rfl, bc BK184 1 rfl⟩ (fun hHeld => ?_); refine with_tabW avermentlaw09_KnownSets.tab3 avermentlaw09_KnownSets.bits3 (fun HT_ HW_ => ?_)
      generalize w52.drew = w53 at BK184 BK185 BK193 BK197 HB hHeld ⊢
      refine one_ (i := 0) (N := some 25) #[true, false, false, false, false, false, false, false, false, false, false, false, false, false, false, false, false, false, false, false, false, false, false, false, false, false] rfl rfl (one_of HT_.out (by kernel_rfl)) (by decide) (fun K hK => ?_)
      refine goes_ Try.func16 (by kernel_rfl) rfl #[] (by rfl) rfl rfl (mapq rfl) ?_
      with_reducible refine (avermentlaw09_told.calls k  true _ A30.out).mono ?_
      rintro e w54 ⟨rfl, hb⟩
      refine ⟨_, rfl, ?_⟩
      replace BK184 := bb BK184 hb rfl; replace BK185 := bb BK185 hb rfl; replace BK193 := bb BK193 hb rfl; replace BK197 := bb BK197 hb rfl; replace HB := hst HB hb rfl
      (try clear hb)
      refine hK.out _ _ ⟨bc BK193 0 rfl, bc BK193 1 rfl, bc BK197 0 rfl, bc BK197 1 rfl, bc BK184 0 rfl, bc BK184 1 rfl⟩ (fun hHeld => ?_)
      clear hK K
      refine norm_ (a' := ?_) ?_ ?_
      rotate_left; · (show Act.put _ (some 25) _ = _; simp only [Act.put, List.setIfInBounds_toArray, List.set_cons_zero, List.set_cons_succ, i64_w, i32_w]; rfl)
      refine pure_ (i := 1) (N := some 26) (v := ?_) (a' := ?_) #[true, true, false, false, false, false, false, false, false, false, false, false, false, false, false, false, false, false, false, false, false, false, false, false, false, false] rfl rfl (any_of HT_.out (by kernel_rfl)) (fun _ _ _ h => h) (Or.inl ⟨by rfl, ?_⟩) ?_ ?_
      rotate_left; · (intro w'; go_simp; with_reducible rfl)
      rotate_left; · (simp only [Act.put, List.setIfInBounds_toArray, List.set_cons_zero, List.set_cons_succ, i64_w, i32_w]; rfl)
      refine pure_ (i := 2) (N := some 27) (v := ?_) (a' := ?_) #[true, true, true, false, false, false, false, false, false, false, false, false, false, false, false, false, false, false, false, false, false, false, false, false, false, false] rfl rfl (any_of HT_.out (by kernel_rfl)) (fun _ _ _ h => h) (Or.inl ⟨by rfl, ?_⟩) ?_ ?_
      rotate_left; · (intro w'; go_simp; with_reducible rfl)
      rotate_left; · (simp only [Act.put, List.setIfInBounds_toArray, List.set_cons_zero, List.set_cons_succ, i64_w, i32_w]; rfl)
      refine take_ (i := 3) (N := some 28) (v := ?_) (a' := ?_) #[true, true, true, true, false, false, false, false, false, false, false, false, false, false, false, false, false, false, false, false, false, false, false, false, false, false] rfl rfl (take_ofW HT_.out HW_.out (by kernel_rfl)) (fun _ _ _ h => h) (Or.inl ⟨by rfl, ?_⟩) hHeld ?_ ?_
      rotate_left
      ·
       rintro w' ⟨s0, s1, s2, s3, s4, s5⟩
       go_simp
       with_reducible rfl
      rotate_left
      ·
       simp only [Act.put, List.setIfInBounds_toArray, List.set_cons_zero, List.set_cons_succ, i64_w, i32_w]
       rfl
      refine take_ (i := 5) (N := some 30) (v := ?_) (a' := ?_) #[true, true, true, true, false, true, false, false, false, false, false, false, false, false, false, false, false, false, false, false, false, false, false, false, false, false] rfl rfl (take_ofW HT_.out HW_.out (by kernel_rfl)) (fun _ _ _ h => h) (Or.inl ⟨by rfl, ?_⟩) hHeld ?_ ?_
      rotate_left
      ·
       rintro w' ⟨s0, s1, s2, s3, s4, s5⟩
       go_simp
       with_reducible rfl
      rotate_left
      ·
       simp only [Act.put, List.setIfInBounds_toArray, List.set_cons_zero, List.set_cons_succ, i64_w, i32_w]
       rfl
      refine one_ (i := 4) (N := some 29) #[true, true, true, true, true, true, false, false, false, false, false, false, false, false, false, false, false, false, false, false, false, false, false, false, false, false] rfl rfl (one_of HT_.out (by kernel_rfl)) (by decide) (fun K hK => ?_)
      refine goes_ Try.func17 (by kernel_rfl) rfl #[.agg #[.bool t190, .int .i64 t191]] (by rfl) rfl rfl (mapq rfl) ?_
      with_reducible refine (avermentlaw09_From.calls t190 t191 t199 t200 _ A32.out).mono ?_
      rintro e w55 ⟨rfl, hb⟩
      refine ⟨_, rfl, ?_⟩
      replace BK184 := bb BK184 hb rfl; replace BK185 := bb BK185 hb rfl; replace BK193 := bb BK193 hb rfl; replace BK197 := bb BK197 hb rfl; replace HB := hst HB hb rfl
      (try clear hb)
      refine hK.out _ _ ⟨bc BK193 0 rfl, bc BK193 1 rfl, bc BK197 0 rfl, bc BK197 1 rfl, bc BK184 0 rfl, bc BK184 1 rfl⟩ (fun hHeld => ?_)
      clear hK K
      refine norm_ (a' := ?_) ?_ ?_
      rotate_left; · (show Act.put _ (some 29) _ = _; simp only [Act.put, List.setIfInBounds_toArray, List.set_cons_zero, List.set_cons_succ, i64_w, i32_w]; rfl)
      refine pure_ (i := 6) (N := some 31) (v := ?_) (a' := ?_) #[true, true, true, true, true, true, true, false, false, false, false, false, false, false, false, false, false, false, false, false, false, false, false, false, false, false] rfl rfl (any_of HT_.out (by kernel_rfl)) (fun _ _ _ h => h) (Or.inl ⟨by rfl, ?_⟩) ?_ ?_
      rotate_left; · (intro w'; go_simp; with_reducible rfl)
      rotate_left; · (simp only [Act.put, List.setIfInBounds_toArray, List.set_cons_zero, List.set_cons_succ, i64_w, i32_w]; rfl)
      refine pure_ (i := 7) (N := some 32) (v := ?_) (a' := ?_) #[true, true, true, true, true, true, true, true, false, false, false, false, false, false, false, false, false, false, false, false, false, false, false, false, false, false] rfl rfl (any_of HT_.out (by kernel_rfl)) (fun _ _ _ h => h) (Or.inl ⟨by rfl, ?_⟩) ?_ ?_
      rotate_left; · (intro w'; go_simp; with_reducible rfl)
      rotate_left; · (simp only [Act.put, List.setIfInBounds_toArray, List.set_cons_zero, List.set_cons_succ, i64_w, i32_w]; rfl)
      refine pure_ (i := 8) (N := some 33) (v := ?_) (a' := ?_) #[true, true, true, true, true, true, true, true, true, false, false, false, false, false, false, false, false, false, false, false, false, false, false, false, false, false] rfl rfl (any_of HT_.out (by kernel_rfl)) (fun _ _ _ h => h) (Or.inl ⟨by rfl, ?_⟩) ?_ ?_
      rotate_left; · (intro w'; go_simp; with_reducible rfl)
      rotate_left; · (simp only [Act.put, List.setIfInBounds_toArray, List.set_cons_zero, List.set_cons_succ, i64_w, i32_w]; rfl)
      refine pure_ (i := 9) (N := some 34) (v := ?_) (a' := ?_) #[true, true, true, true, true, true, true, true, true, true, false, false, false, false, false, false, false, false, false, false, false, false, false, false, false, false] rfl rfl (any_of HT_.out (by kernel_rfl)) (fun _ _ _ h => h) (Or.inl ⟨by rfl, ?_⟩) ?_ ?_
      rotate_left; · (intro w'; go_simp; with_reducible rfl)
      rotate_left; · (simp only [Act.put, List.setIfInBounds_toArray, List.set_cons_zero, List.set_cons_succ, i64_w, i32_w]; rfl)
      refine pure_ (i := 10) (N := some 35) (v := ?_) (a' := ?_) #[true, true, true, true, true, true, true, true, true, true, true, false, false, false, false, false, false, false, false, false, false, false, false, false, false, false] rfl rfl (any_of HT_.out (by kernel_rfl)) (fun _ _ _ h => h) (Or.inl ⟨by rfl, ?_⟩) ?_ ?_
      rotate_left; · (intro w'; go_simp; with_reducible rfl)
      rotate_left; · (simp only [Act.put, List.setIfInBounds_toArray, List.set_cons_zero, List.set_cons_succ, i64_w, i32_w]; rfl)
      refine pure_ (i := 11) (N := some 36) (v := ?_) (a' := ?_) #[true, true, true, true, true, true, true, true, true, true, true, true, false, false, false, false, false, false, false, false, false, false, false, false, false, false] rfl rfl (any_of HT_.out (by kernel_rfl)) (fun _ _ _ h => h) (Or.inl ⟨by rfl, ?_⟩) ?_ ?_
      rotate_left; · (intro w'; go_simp; with_reducible rfl)
      rotate_left; · (simp only [Act.put, List.setIfInBounds_toArray, List.set_cons_zero, List.set_cons_succ, i64_w, i32_w]; rfl)
      refine pure_ (i := 12) (N := some 37) (v := ?_) (a' := ?_) #[true, true, true, true, true, true, true, true, true, true, true, true, true, false, false, false, false, false, false, false, false, false, false, false, false, false] rfl rfl (any_of HT_.out (by kernel_rfl)) (fun _ _ _ h => h) (Or.inl ⟨by rfl, ?_⟩) ?_ ?_
      rotate_left; · (intro w'; go_simp; with_reducible rfl)
      rotate_left; · (simp only [Act.put, List.setIfInBounds_toArray, List.set_cons_zero, List.set_cons_succ, i64_w, i32_w]; rfl)
      refine pure_ (i := 13) (N := some 38) (v := ?_) (a' := ?_) #[true, true, true, true, true, true, true, true, true, true, true, true, true, true, false, false, false, false, false, false, false, false, false, false, false, false] rfl rfl (any_of HT_.out (by kernel_rfl)) (fun _ _ _ h => h) (Or.inl ⟨by rfl, ?_⟩) ?_ ?_
      rotate_left; · (intro w'; go_simp; with_reducible rfl)
      rotate_left; · (simp only [Act.put, List.setIfInBounds_toArray, List.set_cons_zero, List.set_cons_succ, i64_w, i32_w]; rfl)
      refine pure_ (i := 17) (N := some 42) (v := ?_) (a' := ?_) #[true, true, true, true, true, true, true, true, true, true, true, true, true, true, false, false, false, true, false, false, false, false, false, false, false, false] rfl rfl (any_of HT_.out (by kernel_rfl)) (fun _ _ _ h => h) (Or.inl ⟨by rfl, ?_⟩) ?_ ?_
      rotate_left; · (intro w'; go_simp; with_reducible rfl)
      rotate_left; · (simp only [Act.put, List.setIfInBounds_toArray, List.set_cons_zero, List.set_cons_succ, i64_w, i32_w]; rfl)
      refine take_ (i := 14) (N := some 39) (v := ?_) (a' := ?_) #[true, true, true, true, true, true, true, true, true, true, true, true, true, true, true, false, false, true, false, false, false, false, false, false, false, false] rfl rfl (take_ofW HT_.out HW_.out (by kernel_rfl)) (fun _ _ _ h => h) (Or.inl ⟨by rfl, ?_⟩) hHeld ?_ ?_
      rotate_left
      ·
       rintro w' ⟨s0, s1, s2, s3, s4, s5⟩
       go_simp
       with_reducible rfl
      rotate_left
      ·
       simp only [Act.put, List.setIfInBounds_toArray, List.set_cons_zero, List.set_cons_succ, i64_w, i32_w]
       rfl
      refine take_ (i := 18) (N := some 43) (v := ?_) (a' := ?_) #[true, true, true, true, true, true, true, true, true, true, true, true, true, true, true, false, false, true, true, false, false, false, false, false, false, false] rfl rfl (take_ofW HT_.out HW_.out (by kernel_rfl)) (fun _ _ _ h => h) (Or.inl ⟨by rfl, ?_⟩) hHeld ?_ ?_
      rotate_left
      ·
       rintro w' ⟨s0, s1, s2, s3, s4, s5⟩
       go_simp
       with_reducible rfl
      rotate_left
      ·
       simp only [Act.put, List.setIfInBounds_toArray, List.set_cons_zero, List.set_cons_succ, i64_w, i32_w]
       rfl
      refine one_ (i := 15) (N := some 40) #[true, true, true, true, true, true, true, true, true, true, true, true, true, true, true, true, false, true, true, false, false, false, false, false, false, false] rfl rfl (one_of HT_.out (by kernel_rfl)) (by decide) (fun K hK => ?_)
      refine goes_ Try.func14 (by kernel_rfl) rfl #[.agg #[.bool false, .int .i64 a0_1]] (by rfl) rfl rfl (mapq rfl) ?_
      with_reducible refine (avermentlaw09_To.calls false a0_1 t201 t202 _ A43.out).mono ?_
      rintro e w56 ⟨rfl, hb⟩
      refine ⟨_, rfl, ?_⟩
      replace BK184 := bb BK184 hb rfl; replace BK185 := bb BK185 hb rfl; replace BK193 := bb BK193 hb rfl; replace BK197 := bb BK197 hb rfl; replace HB := hst HB hb rfl
      (try clear hb)
      refine hK.out _ _ ⟨bc BK193 0 rfl, bc BK193 1 rfl, bc BK197 0 rfl, bc BK197 1 rfl, bc BK184 0 rfl, bc BK184 1 rfl⟩ (fun hHeld => ?_)
      clear hK K
      refine norm_ (a' := ?_) ?_ ?_
      rotate_left; · (show Act.put _ (some 40) _ = _; simp only [Act.put, List.setIfInBounds_toArray, List.set_cons_zero, List.set_cons_succ, i64_w, i32_w]; rfl)
      refine one_ (i := 16) (N := some 41) #[true, true, true, true, true, true, true, true, true, true, true, true, true, true, true, true, true, true, true, false, false, false, false, false, false, false] rfl rfl (one_of HT_.out (by kernel_rfl)) (by decide) (fun K hK => ?_)
      refine goes_ Try.func18 (by kernel_rfl) rfl #[.agg #[.bool t201, .int .i64 t202]] (by rfl) rfl rfl (mapq rfl) ?_
      with_reducible refine (known_Right.calls t201 t202 t203 _ A44.out).mono ?_
      rintro e w57 ⟨rfl, hb⟩
      refine ⟨_, rfl, ?_⟩
      replace BK184 := bb BK184 hb rfl; replace BK185 := bb BK185 hb rfl; replace BK193 := bb BK193 hb rfl; replace BK197 := bb BK197 hb rfl; replace HB := hst HB hb rfl
      (try clear hb)
      refine hK.out _ _ ⟨bc BK193 0 rfl, bc BK193 1 rfl, bc BK197 0 rfl, bc BK197 1 rfl, bc BK184 0 rfl, bc BK184 1 rfl⟩ (fun hHeld => ?_)
      clear hK K
      refine norm_ (a' := ?_) ?_ ?_
      rotate_left; · (show Act.put _ (some 41) _ = _; simp only [Act.put, List.setIfInBounds_toArray, List.set_cons_zero, List.set_cons_succ, i64_w, i32_w]; rfl)
      refine pure_ (i := 19) (N := some 44) (v := ?_) (a' := ?_) #[true, true, true, true, true, true, true, true, true, true, true, true, true, true, true, true, true, true, true, true, false, false, false, false, false, false] rfl rfl (any_of HT_.out (by kernel_rfl)) (fun _ _ _ h => h) (Or.inl ⟨by rfl, ?_⟩) ?_ ?_
      rotate_left; · (intro w'; go_simp; with_reducible rfl)
      rotate_left; · (simp only [Act.put, List.setIfInBounds_toArray, List.set_cons_zero, List.set_cons_succ, i64_w, i32_w]; rfl)
      refine pure_ (i := 20) (N := some 45) (v := ?_) (a' := ?_) #[true, true, true, true, true, true, true, true, true, true, true, true, true, true, true, true, true, true, true, true, true, false, false, false, false, false] rfl rfl (any_of HT_.out (by kernel_rfl)) (fun _ _ _ h => h) (Or.inl ⟨by rfl, ?_⟩) ?_ ?_
      rotate_left; · (intro w'; go_simp; with_reducible rfl)
      rotate_left; · (simp only [Act.put, List.setIfInBounds_toArray, List.set_cons_zero, List.set_cons_succ, i64_w, i32_w]; rfl)
      refine take_ (i := 21) (N := some 46) (v := ?_) (a' := ?_) #[true, true, true, true, true, true, true, true, true, true, true, true, true, true, true, true, true, true, true, true, true, true, false, false, false, false] rfl rfl (take_ofW HT_.out HW_.out (by kernel_rfl)) (fun _ _ _ h => h) (Or.inl ⟨by rfl, ?_⟩) hHeld ?_ ?_
      rotate_left
      ·
       rintro w' ⟨s0, s1, s2, s3, s4, s5⟩
       go_simp
       with_reducible rfl
      rotate_left
      ·
       simp only [Act.put, List.setIfInBounds_toArray, List.set_cons_zero, List.set_cons_succ, i64_w, i32_w]
       rfl
      refine pure_ (i := 22) (N := some 47) (v := ?_) (a' := ?_) #[true, true, true, true, true, true, true, true, true, true, true, true, true, true, true, true, true, true, true, true, true, true, true, false, false, false] rfl rfl (any_of HT_.out (by kernel_rfl)) (fun _ _ _ h => h) (Or.inl ⟨by rfl, ?_⟩) ?_ ?_
      rotate_left; · (intro w'; go_simp; with_reducible rfl)
      rotate_left; · (simp only [Act.put, List.setIfInBounds_toArray, List.set_cons_zero, List.set_cons_succ, i64_w, i32_w]; rfl)
      refine pure_ (i := 23) (N := some 48) (v := ?_) (a' := ?_) #[true, true, true, true, true, true, true, true, true, true, true, true, true, true, true, true, true, true, true, true, true, true, true, true, false, false] rfl rfl (any_of HT_.out (by kernel_rfl)) (fun _ _ _ h => h) (Or.inl ⟨by rfl, ?_⟩) ?_ ?_
      rotate_left; · (intro w'; go_simp; with_reducible rfl)
      rotate_left; · (simp only [Act.put, List.setIfInBounds_toArray, List.set_cons_zero, List.set_cons_succ, i64_w, i32_w]; rfl)
      refine pure_ (i := 24) (N := some 49) (v := ?_) (a' := ?_) #[true, true, true, true, true, true, true, true, true, true, true, true, true, true, true, true, true, true, true, true, true, true, true, true, true, false] rfl rfl (any_of HT_.out (by kernel_rfl)) (fun _ _ _ h => h) (Or.inl ⟨by rfl, ?_⟩) ?_ ?_
      rotate_left; · (intro w'; go_simp; with_reducible rfl)
      rotate_left; · (simp only [Act.put, List.setIfInBounds_toArray, List.set_cons_zero, List.set_cons_succ, i64_w, i32_w]; rfl)
      refine pure_ (i := 25) (N := some 50) (v := ?_) (a' := ?_) #[true, true, true, true, true, true, true, true, true, true, true, true, true, true, true, true, true, true, true, true, true, true, true, true, true, true] rfl rfl (any_of HT_.out (by kernel_rfl)) (fun _ _ _ h => h) (Or.inl ⟨by rfl, ?_⟩) ?_ ?_
      rotate_left; · (intro w'; go_simp; with_reducible rfl)
      rotate_left; · (simp only [Act.put, List.setIfInBounds_toArray, List.set_cons_zero, List.set_cons_succ, i64_w, i32_w]; rfl)
      refine done_ (done_of HT_.out (by kernel_rfl)) ?_
      try go_wp2
      go_meet
      case rel => exact ⟨_, ((t203 != (a0_1 == 0))), (by first | rfl | (simp; done) | (simp [*]; done)), H', ⟨by first | omega | exact Nat.le_refl _⟩, ⟨by (with_reducible repeat (first | refine blk_drewN ?_ _ | refine blk_drew ?_ | refine blk_alloc ?_ _)); exact BK184.out⟩, ⟨by (with_reducible repeat (first | refine blk_drewN ?_ _ | refine blk_drew ?_ | refine blk_alloc ?_ _)); exact BK185.out⟩, ⟨by (with_reducible repeat (first | refine blk_drewN ?_ _ | refine blk_drew ?_ | refine blk_alloc ?_ _)); exact BK193.out⟩, ⟨by (with_reducible repeat (first | refine blk_drewN ?_ _ | refine blk_drew ?_ | refine blk_alloc ?_ _)); exact BK197.out⟩, ⟨by repeat (first | (with_reducible first | exact HB.out | apply below_alloc | apply pw_below_drewN | apply below_drew1 | refine below_set ?_ GE184.out | refine below_set ?_ GE185.out | refine below_set ?_ GE193.out | refine below_set ?_ GE197.out) | exact HB.out)⟩⟩
  ·
   replace c31 := Bool.eq_false_iff.mpr c31
   subst c31
   rw [if_neg (show ¬ (false = true) by decide)] at H
   have H' := Aside0.mk H
   clear H
   try go_wp2
   have n0_ : Aside0 (((w25.setCell ⟨gb197, 0, none⟩ (.bool t194)).setCell ⟨gb197, 1, none⟩ (.int .i64 t195)).heap[gb184]? = some (.cells #[.bool a0_0, .int .i64 a0_1] 23 (0, 0))) := ⟨by (with_reducible repeat (first | refine blk_drewN ?_ _ | refine blk_drew ?_ | refine blk_alloc ?_ _)); refine blk_far ?_ NB184_197.out _; (with_reducible repeat (first | refine blk_drewN ?_ _ | refine blk_drew ?_ | refine blk_alloc ?_ _)); refine blk_far ?_ NB184_197.out _; (with_reducible repeat (first | refine blk_drewN ?_ _ | refine blk_drew ?_ | refine blk_alloc ?_ _)); exact BK184.out⟩
   have n1_ : Aside0 (((w25.setCell ⟨gb197, 0, none⟩ (.bool t194)).setCell ⟨gb197, 1, none⟩ (.int .i64 t195)).heap[gb185]? = some (.cells #[.bool a1_0, .int .i64 a1_1] 23 (0, 0))) := ⟨by (with_reducible repeat (first | refine blk_drewN ?_ _ | refine blk_drew ?_ | refine blk_alloc ?_ _)); refine blk_far ?_ NB185_197.out _; (with_reducible repeat (first | refine blk_drewN ?_ _ | refine blk_drew ?_ | refine blk_alloc ?_ _)); refine blk_far ?_ NB185_197.out _; (with_reducible repeat (first | refine blk_drewN ?_ _ | refine blk_drew ?_ | refine blk_alloc ?_ _)); exact BK185.out⟩
   have n2_ : Aside0 (((w25.setCell ⟨gb197, 0, none⟩ (.bool t194)).setCell ⟨gb197, 1, none⟩ (.int .i64 t195)).heap[gb193]? = some (.cells #[.bool t190, .int .i64 t191] 24 (0, 0))) := ⟨by (with_reducible repeat (first | refine blk_drewN ?_ _ | refine blk_drew ?_ | refine blk_alloc ?_ _)); refine blk_far ?_ NB193_197.out _; (with_reducible repeat (first | refine blk_drewN ?_ _ | refine blk_drew ?_ | refine blk_alloc ?_ _)); refine blk_far ?_ NB193_197.out _; (with_reducible repeat (first | refine blk_drewN ?_ _ | refine blk_drew ?_ | refine blk_alloc ?_ _)); exact BK193.out⟩
   have n3_ : Aside0 (((w25.setCell ⟨gb197, 0, none⟩ (.bool t194)).setCell ⟨gb197, 1, none⟩ (.int .i64 t195)).heap[gb197]? = some (.cells #[.bool t194, .int .i64 t195] 23 (0, 0))) := ⟨by (with_reducible repeat (first | refine blk_drewN ?_ _ | refine blk_drew ?_ | refine blk_alloc ?_ _)); refine blk_put (cs := #[.bool t194, .int .i64 0]) ?_ 1 _ rfl; (with_reducible repeat (first | refine blk_drewN ?_ _ | refine blk_drew ?_ | refine blk_alloc ?_ _)); refine blk_put (cs := #[.bool false, .int .i64 0]) ?_ 0 _ rfl; (with_reducible repeat (first | refine blk_drewN ?_ _ | refine blk_drew ?_ | refine blk_alloc ?_ _)); exact BK197.out⟩
   have n4_ : Aside0 (Below w.heap.size w ((w25.setCell ⟨gb197, 0, none⟩ (.bool t194)).setCell ⟨gb197, 1, none⟩ (.int .i64 t195))) := ⟨by repeat (first | (with_reducible first | exact HB.out | apply below_alloc | apply pw_below_drewN | apply below_drew1 | refine below_set ?_ GE184.out | refine below_set ?_ GE185.out | refine below_set ?_ GE193.out | refine below_set ?_ GE197.out) | exact HB.out)⟩
   (try clear BK184)
   (try clear BK185)
   (try clear BK193)
   (try clear BK197)
   (try clear HB)
   generalize ((w25.setCell ⟨gb197, 0, none⟩ (.bool t194)).setCell ⟨gb197, 1, none⟩ (.int .i64 t195)) = w58 at n0_ n1_ n2_ n3_ n4_ ⊢
   have BK184 := n0_
   have BK185 := n1_
   have BK193 := n2_
   have BK197 := n3_
   have HB := n4_
   clear n0_ n1_ n2_ n3_ n4_
   replace BK184 := Aside0.mk (blk_drew BK184.out); replace BK185 := Aside0.mk (blk_drew BK185.out); replace BK193 := Aside0.mk (blk_drew BK193.out); replace BK197 := Aside0.mk (blk_drew BK197.out); replace HB := Aside0.mk (below_drew1 HB.out)
   refine start_ (n := 26) (S := fun w' => True) (ds := []) #[false, false, false, false, false, false, false, false, false, false, false, false, false, false, false, false, false, false, false, false, false, false, false, false, false, false] (by kernel_rfl) rfl rfl trivial (fun hHeld => ?_); refine with_tabW avermentlaw09_KnownSets.tab3 avermentlaw09_KnownSets.bits3 (fun HT_ HW_ => ?_)
   generalize w58.drew = w59 at BK184 BK185 BK193 BK197 HB hHeld ⊢
   refine one_ (i := 0) (N := some 25) #[true, false, false, false, false, false, false, false, false, false, false, false, false, false, false, false, false, false, false, false, false, false, false, false, false, false] rfl rfl (one_of HT_.out (by kernel_rfl)) (by decide) (fun K hK => ?_)
   refine goes_ Try.func16 (by kernel_rfl) rfl #[] (by rfl) rfl rfl (mapq rfl) ?_
   with_reducible refine (avermentlaw09_told.calls k  false _ A30.out).mono ?_
   rintro e w60 ⟨rfl, hb⟩
   refine ⟨_, rfl, ?_⟩
   replace BK184 := bb BK184 hb rfl; replace BK185 := bb BK185 hb rfl; replace BK193 := bb BK193 hb rfl; replace BK197 := bb BK197 hb rfl; replace HB := hst HB hb rfl
   (try clear hb)
   refine hK.out _ _ trivial (fun hHeld => ?_)
   clear hK K
   refine norm_ (a' := ?_) ?_ ?_
   rotate_left; · (show Act.put _ (some 25) _ = _; simp only [Act.put, List.setIfInBounds_toArray, List.set_cons_zero, List.set_cons_succ, i64_w, i32_w]; rfl)
   refine pure_ (i := 1) (N := some 26) (v := ?_) (a' := ?_) #[true, true, false, false, false, false, false, false, false, false, false, false, false, false, false, false, false, false, false, false, false, false, false, false, false, false] rfl rfl (any_of HT_.out (by kernel_rfl)) (fun _ _ _ h => h) (Or.inl ⟨by rfl, ?_⟩) ?_ ?_
   rotate_left; · (intro w'; go_simp; with_reducible rfl)
   rotate_left; · (simp only [Act.put, List.setIfInBounds_toArray, List.set_cons_zero, List.set_cons_succ, i64_w, i32_w]; rfl)
   refine pure_ (i := 2) (N := some 27) (v := ?_) (a' := ?_) #[true, true, true, false, false, false, false, false, false, false, false, false, false, false, false, false, false, false, false, false, false, false, false, false, false, false] rfl rfl (any_of HT_.out (by kernel_rfl)) (fun _ _ _ h => h) (Or.inl ⟨by rfl, ?_⟩) ?_ ?_
   rotate_left; · (intro w'; go_simp; with_reducible rfl)
   rotate_left; · (simp only [Act.put, List.setIfInBounds_toArray, List.set_cons_zero, List.set_cons_succ, i64_w, i32_w]; rfl)
   refine pure_ (i := 3) (N := some 28) (v := undef) (a' := ?_) #[true, true, true, true, false, false, false, false, false, false, false, false, false, false, false, false, false, false, false, false, false, false, false, false, false, false] rfl rfl (any_of HT_.out (by kernel_rfl)) (fun _ _ _ h => h) (Or.inr ⟨by rfl, rfl⟩) ?_ ?_
   rotate_left
   ·
    simp only [Act.put, List.setIfInBounds_toArray, List.set_cons_zero, List.set_cons_succ, i64_w, i32_w]
    rfl
   refine pure_ (i := 4) (N := some 29) (v := undef) (a' := ?_) #[true, true, true, true, true, false, false, false, false, false, false, false, false, false, false, false, false, false, false, false, false, false, false, false, false, false] rfl rfl (any_of HT_.out (by kernel_rfl)) (fun _ _ _ h => h) (Or.inr ⟨by rfl, rfl⟩) ?_ ?_
   rotate_left
   ·
    simp only [Act.put, List.setIfInBounds_toArray, List.set_cons_zero, List.set_cons_succ, i64_w, i32_w]
    rfl
   refine pure_ (i := 5) (N := some 30) (v := undef) (a' := ?_) #[true, true, true, true, true, true, false, false, false, false, false, false, false, false, false, false, false, false, false, false, false, false, false, false, false, false] rfl rfl (any_of HT_.out (by kernel_rfl)) (fun _ _ _ h => h) (Or.inr ⟨by rfl, rfl⟩) ?_ ?_
   rotate_left
   ·
    simp only [Act.put, List.setIfInBounds_toArray, List.set_cons_zero, List.set_cons_succ, i64_w, i32_w]
    rfl
   refine pure_ (i := 6) (N := some 31) (v := undef) (a' := ?_) #[true, true, true, true, true, true, true, false, false, false, false, false, false, false, false, false, false, false, false, false, false, false, false, false, false, false] rfl rfl (any_of HT_.out (by kernel_rfl)) (fun _ _ _ h => h) (Or.inr ⟨by rfl, rfl⟩) ?_ ?_
   rotate_left
   ·
    simp only [Act.put, List.setIfInBounds_toArray, List.set_cons_zero, List.set_cons_succ, i64_w, i32_w]
    rfl
   refine pure_ (i := 7) (N := some 32) (v := ?_) (a' := ?_) #[true, true, true, true, true, true, true, true, false, false, false, false, false, false, false, false, false, false, false, false, false, false, false, false, false, false] rfl rfl (any_of HT_.out (by kernel_rfl)) (fun _ _ _ h => h) (Or.inl ⟨by rfl, ?_⟩) ?_ ?_
   rotate_left; · (intro w'; go_simp; with_reducible rfl)
   rotate_left; · (simp only [Act.put, List.setIfInBounds_toArray, List.set_cons_zero, List.set_cons_succ, i64_w, i32_w]; rfl)
   refine pure_ (i := 8) (N := some 33) (v := ?_) (a' := ?_) #[true, true, true, true, true, true, true, true, true, false, false, false, false, false, false, false, false, false, false, false, false, false, false, false, false, false] rfl rfl (any_of HT_.out (by kernel_rfl)) (fun _ _ _ h => h) (Or.inl ⟨by rfl, ?_⟩) ?_ ?_
   rotate_left; · (intro w'; go_simp; with_reducible rfl)
   rotate_left; · (simp only [Act.put, List.setIfInBounds_toArray, List.set_cons_zero, List.set_cons_succ, i64_w, i32_w]; rfl)
   refine pure_ (i := 9) (N := some 34) (v := undef) (a' := ?_) #[true, true, true, true, true, true, true, true, true, true, false, false, false, false, false, false, false, false, false, false, false, false, false, false, false, false] rfl rfl (any_of HT_.out (by kernel_rfl)) (fun _ _ _ h => h) (Or.inr ⟨by rfl, rfl⟩) ?_ ?_
   rotate_left
   ·
    simp only [Act.put, List.setIfInBounds_toArray, List.set_cons_zero, List.set_cons_succ, i64_w, i32_w]
    rfl
   refine pure_ (i := 10) (N := some 35) (v := undef) (a' := ?_) #[true, true, true, true, true, true, true, true, true, true, true, false, false, false, false, false, false, false, false, false, false, false, false, false, false, false] rfl rfl (any_of HT_.out (by kernel_rfl)) (fun _ _ _ h => h) (Or.inr ⟨by rfl, rfl⟩) ?_ ?_
   rotate_left
   ·
    simp only [Act.put, List.setIfInBounds_toArray, List.set_cons_zero, List.set_cons_succ, i64_w, i32_w]
    rfl
   refine pure_ (i := 11) (N := some 36) (v := undef) (a' := ?_) #[true, true, true, true, true, true, true, true, true, true, true, true, false, false, false, false, false, false, false, false, false, false, false, false, false, false] rfl rfl (any_of HT_.out (by kernel_rfl)) (fun _ _ _ h => h) (Or.inr ⟨by rfl, rfl⟩) ?_ ?_
   rotate_left
   ·
    simp only [Act.put, List.setIfInBounds_toArray, List.set_cons_zero, List.set_cons_succ, i64_w, i32_w]
    rfl
   refine pure_ (i := 12) (N := some 37) (v := ?_) (a' := ?_) #[true, true, true, true, true, true, true, true, true, true, true, true, true, false, false, false, false, false, false, false, false, false, false, false, false, false] rfl rfl (any_of HT_.out (by kernel_rfl)) (fun _ _ _ h => h) (Or.inl ⟨by rfl, ?_⟩) ?_ ?_
   rotate_left; · (intro w'; go_simp; with_reducible rfl)
   rotate_left; · (simp only [Act.put, List.setIfInBounds_toArray, List.set_cons_zero, List.set_cons_succ, i64_w, i32_w]; rfl)
   refine pure_ (i := 13) (N := some 38) (v := ?_) (a' := ?_) #[true, true, true, true, true, true, true, true, true, true, true, true, true, true, false, false, false, false, false, false, false, false, false, false, false, false] rfl rfl (any_of HT_.out (by kernel_rfl)) (fun _ _ _ h => h) (Or.inl ⟨by rfl, ?_⟩) ?_ ?_
   rotate_left; · (intro w'; go_simp; with_reducible rfl)
   rotate_left; · (simp only [Act.put, List.setIfInBounds_toArray, List.set_cons_zero, List.set_cons_succ, i64_w, i32_w]; rfl)
   refine pure_ (i := 14) (N := some 39) (v := undef) (a' := ?_) #[true, true, true, true, true, true, true, true, true, true, true, true, true, true, true, false, false, false, false, false, false, false, false, false, false, false] rfl rfl (any_of HT_.out (by kernel_rfl)) (fun _ _ _ h => h) (Or.inr ⟨by rfl, rfl⟩) ?_ ?_
   rotate_left
   ·
    simp only [Act.put, List.setIfInBounds_toArray, List.set_cons_zero, List.set_cons_succ, i64_w, i32_w]
    rfl
   refine pure_ (i := 15) (N := some 40) (v := undef) (a' := ?_) #[true, true, true, true, true, true, true, true, true, true, true, true, true, true, true, true, false, false, false, false, false, false, false, false, false, false] rfl rfl (any_of HT_.out (by kernel_rfl)) (fun _ _ _ h => h) (Or.inr ⟨by rfl, rfl⟩) ?_ ?_
   rotate_left
   ·
    simp only [Act.put, List.setIfInBounds_toArray, List.set_cons_zero, List.set_cons_succ, i64_w, i32_w]
    rfl
   refine pure_ (i := 16) (N := some 41) (v := undef) (a' := ?_) #[true, true, true, true, true, true, true, true, true, true, true, true, true, true, true, true, true, false, false, false, false, false, false, false, false, false] rfl rfl (any_of HT_.out (by kernel_rfl)) (fun _ _ _ h => h) (Or.inr ⟨by rfl, rfl⟩) ?_ ?_
   rotate_left
   ·
    simp only [Act.put, List.setIfInBounds_toArray, List.set_cons_zero, List.set_cons_succ, i64_w, i32_w]
    rfl
   refine pure_ (i := 17) (N := some 42) (v := undef) (a' := ?_) #[true, true, true, true, true, true, true, true, true, true, true, true, true, true, true, true, true, true, false, false, false, false, false, false, false, false] rfl rfl (any_of HT_.out (by kernel_rfl)) (fun _ _ _ h => h) (Or.inr ⟨by rfl, rfl⟩) ?_ ?_
   rotate_left
   ·
    simp only [Act.put, List.setIfInBounds_toArray, List.set_cons_zero, List.set_cons_succ, i64_w, i32_w]
    rfl
   refine pure_ (i := 18) (N := some 43) (v := undef) (a' := ?_) #[true, true, true, true, true, true, true, true, true, true, true, true, true, true, true, true, true, true, true, false, false, false, false, false, false, false] rfl rfl (any_of HT_.out (by kernel_rfl)) (fun _ _ _ h => h) (Or.inr ⟨by rfl, rfl⟩) ?_ ?_
   rotate_left
   ·
    simp only [Act.put, List.setIfInBounds_toArray, List.set_cons_zero, List.set_cons_succ, i64_w, i32_w]
    rfl
   refine pure_ (i := 19) (N := some 44) (v := undef) (a' := ?_) #[true, true, true, true, true, true, true, true, true, true, true, true, true, true, true, true, true, true, true, true, false, false, false, false, false, false] rfl rfl (any_of HT_.out (by kernel_rfl)) (fun _ _ _ h => h) (Or.inr ⟨by rfl, rfl⟩) ?_ ?_
   rotate_left
   ·
    simp only [Act.put, List.setIfInBounds_toArray, List.set_cons_zero, List.set_cons_succ, i64_w, i32_w]
    rfl
   refine pure_ (i := 20) (N := some 45) (v := undef) (a' := ?_) #[true, true, true, true, true, true, true, true, true, true, true, true, true, true, true, true, true, true, true, true, true, false, false, false, false, false] rfl rfl (any_of HT_.out (by kernel_rfl)) (fun _ _ _ h => h) (Or.inr ⟨by rfl, rfl⟩) ?_ ?_
   rotate_left
   ·
    simp only [Act.put, List.setIfInBounds_toArray, List.set_cons_zero, List.set_cons_succ, i64_w, i32_w]
    rfl
   refine pure_ (i := 21) (N := some 46) (v := undef) (a' := ?_) #[true, true, true, true, true, true, true, true, true, true, true, true, true, true, true, true, true, true, true, true, true, true, false, false, false, false] rfl rfl (any_of HT_.out (by kernel_rfl)) (fun _ _ _ h => h) (Or.inr ⟨by rfl, rfl⟩) ?_ ?_
   rotate_left
   ·
    simp only [Act.put, List.setIfInBounds_toArray, List.set_cons_zero, List.set_cons_succ, i64_w, i32_w]
    rfl
   refine pure_ (i := 22) (N := some 47) (v := undef) (a' := ?_) #[true, true, true, true, true, true, true, true, true, true, true, true, true, true, true, true, true, true, true, true, true, true, true, false, false, false] rfl rfl (any_of HT_.out (by kernel_rfl)) (fun _ _ _ h => h) (Or.inr ⟨by rfl, rfl⟩) ?_ ?_
   rotate_left
   ·
    simp only [Act.put, List.setIfInBounds_toArray, List.set_cons_zero, List.set_cons_succ, i64_w, i32_w]
    rfl
   refine pure_ (i := 23) (N := some 48) (v := undef) (a' := ?_) #[true, true, true, true, true, true, true, true, true, true, true, true, true, true, true, true, true, true, true, true, true, true, true, true, false, false] rfl rfl (any_of HT_.out (by kernel_rfl)) (fun _ _ _ h => h) (Or.inr ⟨by rfl, rfl⟩) ?_ ?_
   rotate_left
   ·
    simp only [Act.put, List.setIfInBounds_toArray, List.set_cons_zero, List.set_cons_succ, i64_w, i32_w]
    rfl
   refine pure_ (i := 24) (N := some 49) (v := undef) (a' := ?_) #[true, true, true, true, true, true, true, true, true, true, true, true, true, true, true, true, true, true, true, true, true, true, true, true, true, false] rfl rfl (any_of HT_.out (by kernel_rfl)) (fun _ _ _ h => h) (Or.inr ⟨by rfl, rfl⟩) ?_ ?_
   rotate_left
   ·
    simp only [Act.put, List.setIfInBounds_toArray, List.set_cons_zero, List.set_cons_succ, i64_w, i32_w]
    rfl
   refine pure_ (i := 25) (N := some 50) (v := ?_) (a' := ?_) #[true, true, true, true, true, true, true, true, true, true, true, true, true, true, true, true, true, true, true, true, true, true, true, true, true, true] rfl rfl (any_of HT_.out (by kernel_rfl)) (fun _ _ _ h => h) (Or.inl ⟨by rfl, ?_⟩) ?_ ?_
   rotate_left; · (intro w'; go_simp; with_reducible rfl)
   rotate_left; · (simp only [Act.put, List.setIfInBounds_toArray, List.set_cons_zero, List.set_cons_succ, i64_w, i32_w]; rfl)
   refine done_ (done_of HT_.out (by kernel_rfl)) ?_
   try go_wp2
   go_meet
   case rel => exact ⟨_, (true), (by first | rfl | (simp; done) | (simp [*]; done)), H', ⟨by first | omega | exact Nat.le_refl _⟩, ⟨by (with_reducible repeat (first | refine blk_drewN ?_ _ | refine blk_drew ?_ | refine blk_alloc ?_ _)); exact BK184.out⟩, ⟨by (with_reducible repeat (first | refine blk_drewN ?_ _ | refine blk_drew ?_ | refine blk_alloc ?_ _)); exact BK185.out⟩, ⟨by (with_reducible repeat (first | refine blk_drewN ?_ _ | refine blk_drew ?_ | refine blk_alloc ?_ _)); exact BK193.out⟩, ⟨by (with_reducible repeat (first | refine blk_drewN ?_ _ | refine blk_drew ?_ | refine blk_alloc ?_ _)); exact BK197.out⟩, ⟨by repeat (first | (with_reducible first | exact HB.out | apply below_alloc | apply pw_below_drewN | apply below_drew1 | refine below_set ?_ GE184.out | refine below_set ?_ GE185.out | refine below_set ?_ GE193.out | refine below_set ?_ GE197.out) | exact HB.out)⟩⟩
 case rest =>
  clear HC8
  try clear c1
  try clear p2
  try clear c3
  try clear c4
  try clear c14
  try clear c16
  try clear c17
  try clear c18
  try clear c31
  try clear c45
  obtain ⟨kq, x50_7, rfl, HA, HJ7, BK184, BK185, BK193, BK197, HB⟩ := hcut
  cases kq with
  | zero => exact absurd HA.out (by simp [avermentlaw09_KnownSets.j0])
  | succ kj7 =>
   have H := HA.out
   clear HA
   simp only [avermentlaw09_KnownSets.j0] at H
   by_cases c61 : x50_7 = true
   ·
    subst c61
    rw [if_pos rfl] at H
    exact absurd ((Option.some.inj H).trans hr_.out) (by decide)
   ·
    replace c61 := Bool.eq_false_iff.mpr c61
    subst c61
    rw [if_neg (show ¬ (false = true) by decide)] at H
    replace H := Option.bind_eq_some_iff.mp H
    obtain ⟨⟨t204, t205⟩, A620, H⟩ := H
    (try dsimp only at H)
    have A62 := Aside0.mk A620
    clear A620
    replace H := Option.bind_eq_some_iff.mp H
    obtain ⟨⟨t206, t207⟩, A630, H⟩ := H
    (try dsimp only at H)
    have A63 := Aside0.mk A630
    clear A630
    by_cases c64 : (t206 && (t207 == a2)) = true
    ·
     rw [if_pos c64] at H
     have c64b0 : (t206 && (t207 == a2)) = true := c64
     clear c64
     replace H := Option.bind_eq_some_iff.mp H
     obtain ⟨⟨t208, t209⟩, A650, H⟩ := H
     (try dsimp only at H)
     have A65 := Aside0.mk A650
     clear A650
     replace H := Option.bind_eq_some_iff.mp H
     obtain ⟨⟨t210, t211⟩, A660, H⟩ := H
     (try dsimp only at H)
     have A66 := Aside0.mk A660
     clear A660
     by_cases c67 : (!t210 && (t211 == 0)) = true
     ·
      rw [if_pos c67] at H
      have c67b0 : (!t210 && (t211 == 0)) = true := c67
      clear c67
      replace H := Option.bind_eq_some_iff.mp H
      obtain ⟨⟨t212, t213⟩, A680, H⟩ := H
      (try dsimp only at H)
      have A68 := Aside0.mk A680
      clear A680
      replace H := Option.bind_eq_some_iff.mp H
      obtain ⟨t214, A690, H⟩ := H
      (try dsimp only at H)
      have A69 := Aside0.mk A690
      clear A690
      replace H := Option.bind_eq_some_iff.mp H
      obtain ⟨t215, A700, H⟩ := H
      (try dsimp only at H)
      have A70 := Aside0.mk A700
      clear A700
      by_cases c71 : (t214 == t215) = true
      ·
       rw [if_pos c71] at H
       have c71b0 : (t214 == t215) = true := c71
       (try (have c71b1 : decide (t214 = t215) = true := by simpa using c71))
       (try (have c71b2 : (t214 == t215) = true := by simpa using c71))
       clear c71
       replace H := Option.bind_eq_some_iff.mp H
       obtain ⟨⟨t216, t217⟩, A720, H⟩ := H
       (try dsimp only at H)
       have A72 := Aside0.mk A720
       clear A720
       replace H := Option.bind_eq_some_iff.mp H
       obtain ⟨⟨t218, t219⟩, A730, H⟩ := H
       (try dsimp only at H)
       have A73 := Aside0.mk A730
       clear A730
       replace H := Option.bind_eq_some_iff.mp H
       obtain ⟨⟨t220, t221⟩, A740, H⟩ := H
       (try dsimp only at H)
       have A74 := Aside0.mk A740
       clear A740
       replace H := Option.bind_eq_some_iff.mp H
       obtain ⟨⟨t222, t223⟩, A750, H⟩ := H
       (try dsimp only at H)
       have A75 := Aside0.mk A750
       clear A750
       replace H := Option.bind_eq_some_iff.mp H
       obtain ⟨⟨t224, t225⟩, A760, H⟩ := H
       (try dsimp only at H)
       have A76 := Aside0.mk A760
       clear A760
       by_cases c77 : (t222 == t224 && (t223 == t225)) = true
       ·
        rw [if_pos c77] at H
        have c77b0 : (t222 == t224 && (t223 == t225)) = true := c77
        (try (have c77b1 : decide (t222 = t224 && (t223 == t225)) = true := by simpa using c77))
        (try (have c77b2 : (t222 == t224 && (t223 == t225)) = true := by simpa using c77))
        clear c77
        replace H := Option.bind_eq_some_iff.mp H
        obtain ⟨⟨t226, t227⟩, A780, H⟩ := H
        (try dsimp only at H)
        have A78 := Aside0.mk A780
        clear A780
        replace H := Option.bind_eq_some_iff.mp H
        obtain ⟨⟨t228, t229⟩, A790, H⟩ := H
        (try dsimp only at H)
        have A79 := Aside0.mk A790
        clear A790
        replace H := Option.bind_eq_some_iff.mp H
        obtain ⟨t230, A800, H⟩ := H
        (try dsimp only at H)
        have A80 := Aside0.mk A800
        clear A800
        replace H := Option.bind_eq_some_iff.mp H
        obtain ⟨t231, A810, H⟩ := H
        (try dsimp only at H)
        have A81 := Aside0.mk A810
        clear A810
        obtain rfl := Option.some.inj H
        try go_wp2
        replace BK184 := Aside0.mk (blk_drew BK184.out); replace BK185 := Aside0.mk (blk_drew BK185.out); replace BK193 := Aside0.mk (blk_drew BK193.out); replace BK197 := Aside0.mk (blk_drew BK197.out); replace HB := Aside0.mk (below_drew1 HB.out)
        refine start_ (n := 46) (S := fun w' => w'.cell? ⟨gb184, 0, none⟩ = some (.bool a0_0) ∧ w'.cell? ⟨gb184, 1, none⟩ = some (.int .i64 a0_1) ∧ w'.cell? ⟨gb185, 0, none⟩ = some (.bool a1_0) ∧ w'.cell? ⟨gb185, 1, none⟩ = some (.int .i64 a1_1)) (ds := []) #[false, false, false, false, false, false, false, false, false, false, false, false, false, false, false, false, false, false, false, false, false, false, false, false, false, false, false, false, false, false, false, false, false, false, false, false, false, false, false, false, false, false, false, false, false, false] (by kernel_rfl) rfl rfl ⟨bc BK184 0 rfl, bc BK184 1 rfl, bc BK185 0 rfl, bc BK185 1 rfl⟩ (fun hHeld => ?_); refine with_tabW avermentlaw09_KnownSets.tab5 avermentlaw09_KnownSets.bits5 (fun HT_ HW_ => ?_)
        generalize wc.drew = w82 at BK184 BK185 BK193 BK197 HB hHeld ⊢
        refine pure_ (i := 0) (N := some 51) (v := ?_) (a' := ?_) #[true, false, false, false, false, false, false, false, false, false, false, false, false, false, false, false, false, false, false, false, false, false, false, false, false, false, false, false, false, false, false, false, false, false, false, false, false, false, false, false, false, false, false, false, false, false] rfl rfl (any_of HT_.out (by kernel_rfl)) (fun _ _ _ h => h) (Or.inl ⟨by rfl, ?_⟩) ?_ ?_
        rotate_left; · (intro w'; go_simp; with_reducible rfl)
        rotate_left; · (simp only [Act.put, List.setIfInBounds_toArray, List.set_cons_zero, List.set_cons_succ, i64_w, i32_w]; rfl)
        refine pure_ (i := 3) (N := some 54) (v := ?_) (a' := ?_) #[true, false, false, true, false, false, false, false, false, false, false, false, false, false, false, false, false, false, false, false, false, false, false, false, false, false, false, false, false, false, false, false, false, false, false, false, false, false, false, false, false, false, false, false, false, false] rfl rfl (any_of HT_.out (by kernel_rfl)) (fun _ _ _ h => h) (Or.inl ⟨by rfl, ?_⟩) ?_ ?_
        rotate_left; · (intro w'; go_simp; with_reducible rfl)
        rotate_left; · (simp only [Act.put, List.setIfInBounds_toArray, List.set_cons_zero, List.set_cons_succ, i64_w, i32_w]; rfl)
        refine pure_ (i := 4) (N := some 55) (v := ?_) (a' := ?_) #[true, false, false, true, true, false, false, false, false, false, false, false, false, false, false, false, false, false, false, false, false, false, false, false, false, false, false, false, false, false, false, false, false, false, false, false, false, false, false, false, false, false, false, false, false, false] rfl rfl (any_of HT_.out (by kernel_rfl)) (fun _ _ _ h => h) (Or.inl ⟨by rfl, ?_⟩) ?_ ?_
        rotate_left; · (intro w'; go_simp; with_reducible rfl)
        rotate_left; · (simp only [Act.put, List.setIfInBounds_toArray, List.set_cons_zero, List.set_cons_succ, i64_w, i32_w]; rfl)
        refine one_ (i := 1) (N := some 52) #[true, true, false, true, true, false, false, false, false, false, false, false, false, false, false, false, false, false, false, false, false, false, false, false, false, false, false, false, false, false, false, false, false, false, false, false, false, false, false, false, false, false, false, false, false, false] rfl rfl (one_of HT_.out (by kernel_rfl)) (by decide) (fun K hK => ?_)
        refine goes_ Try.func19 (by kernel_rfl) rfl #[.int .i64 a2] (by rfl) rfl rfl (mapq rfl) ?_
        with_reducible refine (known_Of.calls a2 t204 t205 _ A62.out).mono ?_
        rintro e w83 ⟨rfl, hb⟩
        refine ⟨_, rfl, ?_⟩
        replace BK184 := bb BK184 hb rfl; replace BK185 := bb BK185 hb rfl; replace BK193 := bb BK193 hb rfl; replace BK197 := bb BK197 hb rfl; replace HB := hst HB hb rfl
        (try clear hb)
        refine hK.out _ _ ⟨bc BK184 0 rfl, bc BK184 1 rfl, bc BK185 0 rfl, bc BK185 1 rfl⟩ (fun hHeld => ?_)
        clear hK K
        refine norm_ (a' := ?_) ?_ ?_
        rotate_left; · (show Act.put _ (some 52) _ = _; simp only [Act.put, List.setIfInBounds_toArray, List.set_cons_zero, List.set_cons_succ, i64_w, i32_w]; rfl)
        refine one_ (i := 2) (N := some 53) #[true, true, true, true, true, false, false, false, false, false, false, false, false, false, false, false, false, false, false, false, false, false, false, false, false, false, false, false, false, false, false, false, false, false, false, false, false, false, false, false, false, false, false, false, false, false] rfl rfl (one_of HT_.out (by kernel_rfl)) (by decide) (fun K hK => ?_)
        refine goes_ Try.func17 (by kernel_rfl) rfl #[.agg #[.bool t204, .int .i64 t205]] (by rfl) rfl rfl (mapq rfl) ?_
        with_reducible refine (avermentlaw09_From.calls t204 t205 t206 t207 _ A63.out).mono ?_
        rintro e w84 ⟨rfl, hb⟩
        refine ⟨_, rfl, ?_⟩
        replace BK184 := bb BK184 hb rfl; replace BK185 := bb BK185 hb rfl; replace BK193 := bb BK193 hb rfl; replace BK197 := bb BK197 hb rfl; replace HB := hst HB hb rfl
        (try clear hb)
        refine hK.out _ _ ⟨bc BK184 0 rfl, bc BK184 1 rfl, bc BK185 0 rfl, bc BK185 1 rfl⟩ (fun hHeld => ?_)
        clear hK K
        refine norm_ (a' := ?_) ?_ ?_
        rotate_left; · (show Act.put _ (some 53) _ = _; simp only [Act.put, List.setIfInBounds_toArray, List.set_cons_zero, List.set_cons_succ, i64_w, i32_w]; rfl)
        refine pure_ (i := 5) (N := some 56) (v := ?_) (a' := ?_) #[true, true, true, true, true, true, false, false, false, false, false, false, false, false, false, false, false, false, false, false, false, false, false, false, false, false, false, false, false, false, false, false, false, false, false, false, false, false, false, false, false, false, false, false, false, false] rfl rfl (any_of HT_.out (by kernel_rfl)) (fun _ _ _ h => h) (Or.inl ⟨by rfl, ?_⟩) ?_ ?_
        rotate_left; · (intro w'; go_simp; with_reducible rfl)
        rotate_left; · (simp only [Act.put, List.setIfInBounds_toArray, List.set_cons_zero, List.set_cons_succ, i64_w, i32_w]; rfl)
        refine pure_ (i := 6) (N := some 57) (v := ?_) (a' := ?_) #[true, true, true, true, true, true, true, false, false, false, false, false, false, false, false, false, false, false, false, false, false, false, false, false, false, false, false, false, false, false, false, false, false, false, false, false, false, false, false, false, false, false, false, false, false, false] rfl rfl (any_of HT_.out (by kernel_rfl)) (fun _ _ _ h => h) (Or.inl ⟨by rfl, ?_⟩) ?_ ?_
        rotate_left; · (intro w'; go_simp; with_reducible rfl)
        rotate_left; · (simp only [Act.put, List.setIfInBounds_toArray, List.set_cons_zero, List.set_cons_succ, i64_w, i32_w]; rfl)
        refine pure_ (i := 9) (N := some 60) (v := ?_) (a' := ?_) #[true, true, true, true, true, true, true, false, false, true, false, false, false, false, false, false, false, false, false, false, false, false, false, false, false, false, false, false, false, false, false, false, false, false, false, false, false, false, false, false, false, false, false, false, false, false] rfl rfl (any_of HT_.out (by kernel_rfl)) (fun _ _ _ h => h) (Or.inl ⟨by rfl, ?_⟩) ?_ ?_
        rotate_left; · (intro w'; go_simp; with_reducible rfl)
        rotate_left; · (simp only [Act.put, List.setIfInBounds_toArray, List.set_cons_zero, List.set_cons_succ, i64_w, i32_w]; rfl)
        refine one_ (i := 7) (N := some 58) #[true, true, true, true, true, true, true, true, false, true, false, false, false, false, false, false, false, false, false, false, false, false, false, false, false, false, false, false, false, false, false, false, false, false, false, false, false, false, false, false, false, false, false, false, false, false] rfl rfl (one_of HT_.out (by kernel_rfl)) (by decide) (fun K hK => ?_)
        refine goes_ Try.func20 (by kernel_rfl) rfl #[] (by rfl) rfl rfl (mapq rfl) ?_
        with_reducible refine (known_Any.calls  t208 t209 _ A65.out).mono ?_
        rintro e w85 ⟨rfl, hb⟩
        refine ⟨_, rfl, ?_⟩
        replace BK184 := bb BK184 hb rfl; replace BK185 := bb BK185 hb rfl; replace BK193 := bb BK193 hb rfl; replace BK197 := bb BK197 hb rfl; replace HB := hst HB hb rfl
        (try clear hb)
        refine hK.out _ _ ⟨bc BK184 0 rfl, bc BK184 1 rfl, bc BK185 0 rfl, bc BK185 1 rfl⟩ (fun hHeld => ?_)
        clear hK K
        refine norm_ (a' := ?_) ?_ ?_
        rotate_left; · (show Act.put _ (some 58) _ = _; simp only [Act.put, List.setIfInBounds_toArray, List.set_cons_zero, List.set_cons_succ, i64_w, i32_w]; rfl)
        refine one_ (i := 8) (N := some 59) #[true, true, true, true, true, true, true, true, true, true, false, false, false, false, false, false, false, false, false, false, false, false, false, false, false, false, false, false, false, false, false, false, false, false, false, false, false, false, false, false, false, false, false, false, false, false] rfl rfl (one_of HT_.out (by kernel_rfl)) (by decide) (fun K hK => ?_)
        refine goes_ Try.func17 (by kernel_rfl) rfl #[.agg #[.bool t208, .int .i64 t209]] (by rfl) rfl rfl (mapq rfl) ?_
        with_reducible refine (avermentlaw09_From.calls t208 t209 t210 t211 _ A66.out).mono ?_
        rintro e w86 ⟨rfl, hb⟩
        refine ⟨_, rfl, ?_⟩
        replace BK184 := bb BK184 hb rfl; replace BK185 := bb BK185 hb rfl; replace BK193 := bb BK193 hb rfl; replace BK197 := bb BK197 hb rfl; replace HB := hst HB hb rfl
        (try clear hb)
        refine hK.out _ _ ⟨bc BK184 0 rfl, bc BK184 1 rfl, bc BK185 0 rfl, bc BK185 1 rfl⟩ (fun hHeld => ?_)
        clear hK K
        refine norm_ (a' := ?_) ?_ ?_
        rotate_left; · (show Act.put _ (some 59) _ = _; simp only [Act.put, List.setIfInBounds_toArray, List.set_cons_zero, List.set_cons_succ, i64_w, i32_w]; rfl)
        refine pure_ (i := 10) (N := some 61) (v := ?_) (a' := ?_) #[true, true, true, true, true, true, true, true, true, true, true, false, false, false, false, false, false, false, false, false, false, false, false, false, false, false, false, false, false, false, false, false, false, false, false, false, false, false, false, false, false, false, false, false, false, false] rfl rfl (any_of HT_.out (by kernel_rfl)) (fun _ _ _ h => h) (Or.inl ⟨by rfl, ?_⟩) ?_ ?_
        rotate_left; · (intro w'; go_simp; with_reducible rfl)
        rotate_left; · (simp only [Act.put, List.setIfInBounds_toArray, List.set_cons_zero, List.set_cons_succ, i64_w, i32_w]; rfl)
        refine pure_ (i := 11) (N := some 62) (v := ?_) (a' := ?_) #[true, true, true, true, true, true, true, true, true, true, true, true, false, false, false, false, false, false, false, false, false, false, false, false, false, false, false, false, false, false, false, false, false, false, false, false, false, false, false, false, false, false, false, false, false, false] rfl rfl (any_of HT_.out (by kernel_rfl)) (fun _ _ _ h => h) (Or.inl ⟨by rfl, ?_⟩) ?_ ?_
        rotate_left; · (intro w'; go_simp; with_reducible rfl)
        rotate_left; · (simp only [Act.put, List.setIfInBounds_toArray, List.set_cons_zero, List.set_cons_succ, i64_w, i32_w]; rfl)
        refine pure_ (i := 12) (N := some 63) (v := ?_) (a' := ?_) #[true, true, true, true, true, true, true, true, true, true, true, true, true, false, false, false, false, false, false, false, false, false, false, false, false, false, false, false, false, false, false, false, false, false, false, false, false, false, false, false, false, false, false, false, false, false] rfl rfl (any_of HT_.out (by kernel_rfl)) (fun _ _ _ h => h) (Or.inl ⟨by rfl, ?_⟩) ?_ ?_
        rotate_left; · (intro w'; go_simp; with_reducible rfl)
        rotate_left; · (simp only [Act.put, List.setIfInBounds_toArray, List.set_cons_zero, List.set_cons_succ, i64_w, i32_w]; rfl)
        refine pure_ (i := 15) (N := some 66) (v := ?_) (a' := ?_) #[true, true, true, true, true, true, true, true, true, true, true, true, true, false, false, true, false, false, false, false, false, false, false, false, false, false, false, false, false, false, false, false, false, false, false, false, false, false, false, false, false, false, false, false, false, false] rfl rfl (any_of HT_.out (by kernel_rfl)) (fun _ _ _ h => h) (Or.inl ⟨by rfl, ?_⟩) ?_ ?_
        rotate_left; · (intro w'; go_simp; with_reducible rfl)
        rotate_left; · (simp only [Act.put, List.setIfInBounds_toArray, List.set_cons_zero, List.set_cons_succ, i64_w, i32_w]; rfl)
        refine pure_ (i := 18) (N := some 69) (v := ?_) (a' := ?_) #[true, true, true, true, true, true, true, true, true, true, true, true, true, false, false, true, false, false, true, false, false, false, false, false, false, false, false, false, false, false, false, false, false, false, false, false, false, false, false, false, false, false, false, false, false, false] rfl rfl (any_of HT_.out (by kernel_rfl)) (fun _ _ _ h => h) (Or.inl ⟨by rfl, ?_⟩) ?_ ?_
        rotate_left; · (intro w'; go_simp; with_reducible rfl)
        rotate_left; · (simp only [Act.put, List.setIfInBounds_toArray, List.set_cons_zero, List.set_cons_succ, i64_w, i32_w]; rfl)
        refine take_ (i := 13) (N := some 64) (v := ?_) (a' := ?_) #[true, true, true, true, true, true, true, true, true, true, true, true, true, true, false, true, false, false, true, false, false, false, false, false, false, false, false, false, false, false, false, false, false, false, false, false, false, false, false, false, false, false, false, false, false, false] rfl rfl (take_ofW HT_.out HW_.out (by kernel_rfl)) (fun _ _ _ h => h) (Or.inl ⟨by rfl, ?_⟩) hHeld ?_ ?_
        rotate_left
        ·
         rintro w' ⟨s0, s1, s2, s3⟩
         go_simp
         with_reducible rfl
        rotate_left
        ·
         simp only [Act.put, List.setIfInBounds_toArray, List.set_cons_zero, List.set_cons_succ, i64_w, i32_w]
         rfl
        refine take_ (i := 17) (N := some 68) (v := ?_) (a' := ?_) #[true, true, true, true, true, true, true, true, true, true, true, true, true, true, false, true, false, true, true, false, false, false, false, false, false, false, false, false, false, false, false, false, false, false, false, false, false, false, false, false, false, false, false, false, false, false] rfl rfl (take_ofW HT_.out HW_.out (by kernel_rfl)) (fun _ _ _ h => h) (Or.inl ⟨by rfl, ?_⟩) hHeld ?_ ?_
        rotate_left
        ·
         rintro w' ⟨s0, s1, s2, s3⟩
         go_simp
         with_reducible rfl
        rotate_left
        ·
         simp only [Act.put, List.setIfInBounds_toArray, List.set_cons_zero, List.set_cons_succ, i64_w, i32_w]
         rfl
        refine one_ (i := 14) (N := some 65) #[true, true, true, true, true, true, true, true, true, true, true, true, true, true, true, true, false, true, true, false, false, false, false, false, false, false, false, false, false, false, false, false, false, false, false, false, false, false, false, false, false, false, false, false, false, false] rfl rfl (one_of HT_.out (by kernel_rfl)) (by decide) (fun K hK => ?_)
        refine goes_ Try.func14 (by kernel_rfl) rfl #[.agg #[.bool a0_0, .int .i64 a0_1]] (by rfl) rfl rfl (mapq rfl) ?_
        with_reducible refine (avermentlaw09_To.calls a0_0 a0_1 t212 t213 _ A68.out).mono ?_
        rintro e w87 ⟨rfl, hb⟩
        refine ⟨_, rfl, ?_⟩
        replace BK184 := bb BK184 hb rfl; replace BK185 := bb BK185 hb rfl; replace BK193 := bb BK193 hb rfl; replace BK197 := bb BK197 hb rfl; replace HB := hst HB hb rfl
        (try clear hb)
        refine hK.out _ _ ⟨bc BK184 0 rfl, bc BK184 1 rfl, bc BK185 0 rfl, bc BK185 1 rfl⟩ (fun hHeld => ?_)
        clear hK K
        refine norm_ (a' := ?_) ?_ ?_
        rotate_left; · (show Act.put _ (some 65) _ = _; simp only [Act.put, List.setIfInBounds_toArray, List.set_cons_zero, List.set_cons_succ, i64_w, i32_w]; rfl)
        refine one_ (i := 16) (N := some 67) #[true, true, true, true, true, true, true, true, true, true, true, true, true, true, true, true, true, true, true, false, false, false, false, false, false, false, false, false, false, false, false, false, false, false, false, false, false, false, false, false, false, false, false, false, false, false] rfl rfl (one_of HT_.out (by kernel_rfl)) (by decide) (fun K hK => ?_)
        refine goes_ Try.func21 (by kernel_rfl) rfl #[.agg #[.bool t212, .int .i64 t213], .int .i64 a2] (by rfl) rfl rfl (mapq rfl) ?_
        with_reducible refine (known_Has.calls t212 t213 a2 t214 _ A69.out).mono ?_
        rintro e w88 ⟨rfl, hb⟩
        refine ⟨_, rfl, ?_⟩
        replace BK184 := bb BK184 hb rfl; replace BK185 := bb BK185 hb rfl; replace BK193 := bb BK193 hb rfl; replace BK197 := bb BK197 hb rfl; replace HB := hst HB hb rfl
        (try clear hb)
        refine hK.out _ _ ⟨bc BK184 0 rfl, bc BK184 1 rfl, bc BK185 0 rfl, bc BK185 1 rfl⟩ (fun hHeld => ?_)
        clear hK K
        refine norm_ (a' := ?_) ?_ ?_
        rotate_left; · (show Act.put _ (some 67) _ = _; simp only [Act.put, List.setIfInBounds_toArray, List.set_cons_zero, List.set_cons_succ, i64_w, i32_w]; rfl)
        refine one_ (i := 19) (N := some 70) #[true, true, true, true, true, true, true, true, true, true, true, true, true, true, true, true, true, true, true, true, false, false, false, false, false, false, false, false, false, false, false, false, false, false, false, false, false, false, false, false, false, false, false, false, false, false] rfl rfl (one_of HT_.out (by kernel_rfl)) (by decide) (fun K hK => ?_)
        refine goes_ Try.func22 (by kernel_rfl) rfl #[.agg #[.bool a0_0, .int .i64 a0_1], .int .i64 a2] (by rfl) rfl rfl (mapq rfl) ?_
        with_reducible refine (avermentref09_Has.calls a0_0 a0_1 a2 t215 _ A70.out).mono ?_
        rintro e w89 ⟨rfl, hb⟩
        refine ⟨_, rfl, ?_⟩
        replace BK184 := bb BK184 hb rfl; replace BK185 := bb BK185 hb rfl; replace BK193 := bb BK193 hb rfl; replace BK197 := bb BK197 hb rfl; replace HB := hst HB hb rfl
        (try clear hb)
        refine hK.out _ _ ⟨bc BK184 0 rfl, bc BK184 1 rfl, bc BK185 0 rfl, bc BK185 1 rfl⟩ (fun hHeld => ?_)
        clear hK K
        refine norm_ (a' := ?_) ?_ ?_
        rotate_left; · (show Act.put _ (some 70) _ = _; simp only [Act.put, List.setIfInBounds_toArray, List.set_cons_zero, List.set_cons_succ, i64_w, i32_w]; rfl)
        refine pure_ (i := 20) (N := some 71) (v := ?_) (a' := ?_) #[true, true, true, true, true, true, true, true, true, true, true, true, true, true, true, true, true, true, true, true, true, false, false, false, false, false, false, false, false, false, false, false, false, false, false, false, false, false, false, false, false, false, false, false, false, false] rfl rfl (any_of HT_.out (by kernel_rfl)) (fun _ _ _ h => h) (Or.inl ⟨by rfl, ?_⟩) ?_ ?_
        rotate_left; · (intro w'; go_simp; with_reducible rfl)
        rotate_left; · (simp only [Act.put, List.setIfInBounds_toArray, List.set_cons_zero, List.set_cons_succ, i64_w, i32_w]; rfl)
        refine pure_ (i := 21) (N := some 72) (v := ?_) (a' := ?_) #[true, true, true, true, true, true, true, true, true, true, true, true, true, true, true, true, true, true, true, true, true, true, false, false, false, false, false, false, false, false, false, false, false, false, false, false, false, false, false, false, false, false, false, false, false, false] rfl rfl (any_of HT_.out (by kernel_rfl)) (fun _ _ _ h => h) (Or.inl ⟨by rfl, ?_⟩) ?_ ?_
        rotate_left; · (intro w'; go_simp; with_reducible rfl)
        rotate_left; · (simp only [Act.put, List.setIfInBounds_toArray, List.set_cons_zero, List.set_cons_succ, i64_w, i32_w]; rfl)
        refine pure_ (i := 22) (N := some 73) (v := ?_) (a' := ?_) #[true, true, true, true, true, true, true, true, true, true, true, true, true, true, true, true, true, true, true, true, true, true, true, false, false, false, false, false, false, false, false, false, false, false, false, false, false, false, false, false, false, false, false, false, false, false] rfl rfl (any_of HT_.out (by kernel_rfl)) (fun _ _ _ h => h) (Or.inl ⟨by rfl, ?_⟩) ?_ ?_
        rotate_left; · (intro w'; go_simp; with_reducible rfl)
        rotate_left; · (simp only [Act.put, List.setIfInBounds_toArray, List.set_cons_zero, List.set_cons_succ, i64_w, i32_w]; rfl)
        refine take_ (i := 23) (N := some 74) (v := ?_) (a' := ?_) #[true, true, true, true, true, true, true, true, true, true, true, true, true, true, true, true, true, true, true, true, true, true, true, true, false, false, false, false, false, false, false, false, false, false, false, false, false, false, false, false, false, false, false, false, false, false] rfl rfl (take_ofW HT_.out HW_.out (by kernel_rfl)) (fun _ _ _ h => h) (Or.inl ⟨by rfl, ?_⟩) hHeld ?_ ?_
        rotate_left
        ·
         rintro w' ⟨s0, s1, s2, s3⟩
         go_simp
         with_reducible rfl
        rotate_left
        ·
         simp only [Act.put, List.setIfInBounds_toArray, List.set_cons_zero, List.set_cons_succ, i64_w, i32_w]
         rfl
        refine take_ (i := 25) (N := some 76) (v := ?_) (a' := ?_) #[true, true, true, true, true, true, true, true, true, true, true, true, true, true, true, true, true, true, true, true, true, true, true, true, false, true, false, false, false, false, false, false, false, false, false, false, false, false, false, false, false, false, false, false, false, false] rfl rfl (take_ofW HT_.out HW_.out (by kernel_rfl)) (fun _ _ _ h => h) (Or.inl ⟨by rfl, ?_⟩) hHeld ?_ ?_
        rotate_left
        ·
         rintro w' ⟨s0, s1, s2, s3⟩
         go_simp
         with_reducible rfl
        rotate_left
        ·
         simp only [Act.put, List.setIfInBounds_toArray, List.set_cons_zero, List.set_cons_succ, i64_w, i32_w]
         rfl
        refine take_ (i := 29) (N := some 80) (v := ?_) (a' := ?_) #[true, true, true, true, true, true, true, true, true, true, true, true, true, true, true, true, true, true, true, true, true, true, true, true, false, true, false, false, false, true, false, false, false, false, false, false, false, false, false, false, false, false, false, false, false, false] rfl rfl (take_ofW HT_.out HW_.out (by kernel_rfl)) (fun _ _ _ h => h) (Or.inl ⟨by rfl, ?_⟩) hHeld ?_ ?_
        rotate_left
        ·
         rintro w' ⟨s0, s1, s2, s3⟩
         go_simp
         with_reducible rfl
        rotate_left
        ·
         simp only [Act.put, List.setIfInBounds_toArray, List.set_cons_zero, List.set_cons_succ, i64_w, i32_w]
         rfl
        refine take_ (i := 30) (N := some 81) (v := ?_) (a' := ?_) #[true, true, true, true, true, true, true, true, true, true, true, true, true, true, true, true, true, true, true, true, true, true, true, true, false, true, false, false, false, true, true, false, false, false, false, false, false, false, false, false, false, false, false, false, false, false] rfl rfl (take_ofW HT_.out HW_.out (by kernel_rfl)) (fun _ _ _ h => h) (Or.inl ⟨by rfl, ?_⟩) hHeld ?_ ?_
        rotate_left
        ·
         rintro w' ⟨s0, s1, s2, s3⟩
         go_simp
         with_reducible rfl
        rotate_left
        ·
         simp only [Act.put, List.setIfInBounds_toArray, List.set_cons_zero, List.set_cons_succ, i64_w, i32_w]
         rfl
        refine one_ (i := 24) (N := some 75) #[true, true, true, true, true, true, true, true, true, true, true, true, true, true, true, true, true, true, true, true, true, true, true, true, true, true, false, false, false, true, true, false, false, false, false, false, false, false, false, false, false, false, false, false, false, false] rfl rfl (one_of HT_.out (by kernel_rfl)) (by decide) (fun K hK => ?_)
        refine goes_ Try.func14 (by kernel_rfl) rfl #[.agg #[.bool a0_0, .int .i64 a0_1]] (by rfl) rfl rfl (mapq rfl) ?_
        with_reducible refine (avermentlaw09_To.calls a0_0 a0_1 t216 t217 _ A72.out).mono ?_
        rintro e w90 ⟨rfl, hb⟩
        refine ⟨_, rfl, ?_⟩
        replace BK184 := bb BK184 hb rfl; replace BK185 := bb BK185 hb rfl; replace BK193 := bb BK193 hb rfl; replace BK197 := bb BK197 hb rfl; replace HB := hst HB hb rfl
        (try clear hb)
        refine hK.out _ _ ⟨bc BK184 0 rfl, bc BK184 1 rfl, bc BK185 0 rfl, bc BK185 1 rfl⟩ (fun hHeld => ?_)
        clear hK K
        refine norm_ (a' := ?_) ?_ ?_
        rotate_left; · (show Act.put _ (some 75) _ = _; simp only [Act.put, List.setIfInBounds_toArray, List.set_cons_zero, List.set_cons_succ, i64_w, i32_w]; rfl)
        refine one_ (i := 26) (N := some 77) #[true, true, true, true, true, true, true, true, true, true, true, true, true, true, true, true, true, true, true, true, true, true, true, true, true, true, true, false, false, true, true, false, false, false, false, false, false, false, false, false, false, false, false, false, false, false] rfl rfl (one_of HT_.out (by kernel_rfl)) (by decide) (fun K hK => ?_)
        refine goes_ Try.func14 (by kernel_rfl) rfl #[.agg #[.bool a1_0, .int .i64 a1_1]] (by rfl) rfl rfl (mapq rfl) ?_
        with_reducible refine (avermentlaw09_To.calls a1_0 a1_1 t218 t219 _ A73.out).mono ?_
        rintro e w91 ⟨rfl, hb⟩
        refine ⟨_, rfl, ?_⟩
        replace BK184 := bb BK184 hb rfl; replace BK185 := bb BK185 hb rfl; replace BK193 := bb BK193 hb rfl; replace BK197 := bb BK197 hb rfl; replace HB := hst HB hb rfl
        (try clear hb)
        refine hK.out _ _ ⟨bc BK184 0 rfl, bc BK184 1 rfl, bc BK185 0 rfl, bc BK185 1 rfl⟩ (fun hHeld => ?_)
        clear hK K
        refine norm_ (a' := ?_) ?_ ?_
        rotate_left; · (show Act.put _ (some 77) _ = _; simp only [Act.put, List.setIfInBounds_toArray, List.set_cons_zero, List.set_cons_succ, i64_w, i32_w]; rfl)
        refine one_ (i := 27) (N := some 78) #[true, true, true, true, true, true, true, true, true, true, true, true, true, true, true, true, true, true, true, true, true, true, true, true, true, true, true, true, false, true, true, false, false, false, false, false, false, false, false, false, false, false, false, false, false, false] rfl rfl (one_of HT_.out (by kernel_rfl)) (by decide) (fun K hK => ?_)
        refine goes_ Try.func23 (by kernel_rfl) rfl #[.agg #[.bool t216, .int .i64 t217], .agg #[.bool t218, .int .i64 t219]] (by rfl) rfl rfl (mapq rfl) ?_
        with_reducible refine (known_Join.calls t216 t217 t218 t219 t220 t221 _ A74.out).mono ?_
        rintro e w92 ⟨rfl, hb⟩
        refine ⟨_, rfl, ?_⟩
        replace BK184 := bb BK184 hb rfl; replace BK185 := bb BK185 hb rfl; replace BK193 := bb BK193 hb rfl; replace BK197 := bb BK197 hb rfl; replace HB := hst HB hb rfl
        (try clear hb)
        refine hK.out _ _ ⟨bc BK184 0 rfl, bc BK184 1 rfl, bc BK185 0 rfl, bc BK185 1 rfl⟩ (fun hHeld => ?_)
        clear hK K
        refine norm_ (a' := ?_) ?_ ?_
        rotate_left; · (show Act.put _ (some 78) _ = _; simp only [Act.put, List.setIfInBounds_toArray, List.set_cons_zero, List.set_cons_succ, i64_w, i32_w]; rfl)
        refine one_ (i := 28) (N := some 79) #[true, true, true, true, true, true, true, true, true, true, true, true, true, true, true, true, true, true, true, true, true, true, true, true, true, true, true, true, true, true, true, false, false, false, false, false, false, false, false, false, false, false, false, false, false, false] rfl rfl (one_of HT_.out (by kernel_rfl)) (by decide) (fun K hK => ?_)
        refine goes_ Try.func17 (by kernel_rfl) rfl #[.agg #[.bool t220, .int .i64 t221]] (by rfl) rfl rfl (mapq rfl) ?_
        with_reducible refine (avermentlaw09_From.calls t220 t221 t222 t223 _ A75.out).mono ?_
        rintro e w93 ⟨rfl, hb⟩
        refine ⟨_, rfl, ?_⟩
        replace BK184 := bb BK184 hb rfl; replace BK185 := bb BK185 hb rfl; replace BK193 := bb BK193 hb rfl; replace BK197 := bb BK197 hb rfl; replace HB := hst HB hb rfl
        (try clear hb)
        refine hK.out _ _ ⟨bc BK184 0 rfl, bc BK184 1 rfl, bc BK185 0 rfl, bc BK185 1 rfl⟩ (fun hHeld => ?_)
        clear hK K
        refine norm_ (a' := ?_) ?_ ?_
        rotate_left; · (show Act.put _ (some 79) _ = _; simp only [Act.put, List.setIfInBounds_toArray, List.set_cons_zero, List.set_cons_succ, i64_w, i32_w]; rfl)
        refine one_ (i := 31) (N := some 82) #[true, true, true, true, true, true, true, true, true, true, true, true, true, true, true, true, true, true, true, true, true, true, true, true, true, true, true, true, true, true, true, true, false, false, false, false, false, false, false, false, false, false, false, false, false, false] rfl rfl (one_of HT_.out (by kernel_rfl)) (by decide) (fun K hK => ?_)
        refine goes_ Try.func24 (by kernel_rfl) rfl #[.agg #[.bool a0_0, .int .i64 a0_1], .agg #[.bool a1_0, .int .i64 a1_1]] (by rfl) rfl rfl (mapq rfl) ?_
        with_reducible refine (avermentref09_Join.calls a0_0 a0_1 a1_0 a1_1 t224 t225 _ A76.out).mono ?_
        rintro e w94 ⟨rfl, hb⟩
        refine ⟨_, rfl, ?_⟩
        replace BK184 := bb BK184 hb rfl; replace BK185 := bb BK185 hb rfl; replace BK193 := bb BK193 hb rfl; replace BK197 := bb BK197 hb rfl; replace HB := hst HB hb rfl
        (try clear hb)
        refine hK.out _ _ ⟨bc BK184 0 rfl, bc BK184 1 rfl, bc BK185 0 rfl, bc BK185 1 rfl⟩ (fun hHeld => ?_)
        clear hK K
        refine norm_ (a' := ?_) ?_ ?_
        rotate_left; · (show Act.put _ (some 82) _ = _; simp only [Act.put, List.setIfInBounds_toArray, List.set_cons_zero, List.set_cons_succ, i64_w, i32_w]; rfl)
        refine pure_ (i := 32) (N := some 83) (v := ?_) (a' := ?_) #[true, true, true, true, true, true, true, true, true, true, true, true, true, true, true, true, true, true, true, true, true, true, true, true, true, true, true, true, true, true, true, true, true, false, false, false, false, false, false, false, false, false, false, false, false, false] rfl rfl (any_of HT_.out (by kernel_rfl)) (fun _ _ _ h => h) (Or.inl ⟨by rfl, ?_⟩) ?_ ?_
        rotate_left; · (intro w'; go_simp; with_reducible rfl)
        rotate_left; · (simp only [Act.put, List.setIfInBounds_toArray, List.set_cons_zero, List.set_cons_succ, i64_w, i32_w]; rfl)
        refine pure_ (i := 33) (N := some 84) (v := ?_) (a' := ?_) #[true, true, true, true, true, true, true, true, true, true, true, true, true, true, true, true, true, true, true, true, true, true, true, true, true, true, true, true, true, true, true, true, true, true, false, false, false, false, false, false, false, false, false, false, false, false] rfl rfl (any_of HT_.out (by kernel_rfl)) (fun _ _ _ h => h) (Or.inl ⟨by rfl, ?_⟩) ?_ ?_
        rotate_left; · (intro w'; go_simp; with_reducible rfl)
        rotate_left; · (simp only [Act.put, List.setIfInBounds_toArray, List.set_cons_zero, List.set_cons_succ, i64_w, i32_w]; rfl)
        refine pure_ (i := 34) (N := some 85) (v := ?_) (a' := ?_) #[true, true, true, true, true, true, true, true, true, true, true, true, true, true, true, true, true, true, true, true, true, true, true, true, true, true, true, true, true, true, true, true, true, true, true, false, false, false, false, false, false, false, false, false, false, false] rfl rfl (any_of HT_.out (by kernel_rfl)) (fun _ _ _ h => h) (Or.inl ⟨by rfl, ?_⟩) ?_ ?_
        rotate_left; · (intro w'; go_simp; with_reducible rfl)
        rotate_left; · (simp only [Act.put, List.setIfInBounds_toArray, List.set_cons_zero, List.set_cons_succ, i64_w, i32_w]; rfl)
        refine take_ (i := 35) (N := some 86) (v := ?_) (a' := ?_) #[true, true, true, true, true, true, true, true, true, true, true, true, true, true, true, true, true, true, true, true, true, true, true, true, true, true, true, true, true, true, true, true, true, true, true, true, false, false, false, false, false, false, false, false, false, false] rfl rfl (take_ofW HT_.out HW_.out (by kernel_rfl)) (fun _ _ _ h => h) (Or.inl ⟨by rfl, ?_⟩) hHeld ?_ ?_
        rotate_left
        ·
         rintro w' ⟨s0, s1, s2, s3⟩
         go_simp
         with_reducible rfl
        rotate_left
        ·
         simp only [Act.put, List.setIfInBounds_toArray, List.set_cons_zero, List.set_cons_succ, i64_w, i32_w]
         rfl
        refine take_ (i := 37) (N := some 88) (v := ?_) (a' := ?_) #[true, true, true, true, true, true, true, true, true, true, true, true, true, true, true, true, true, true, true, true, true, true, true, true, true, true, true, true, true, true, true, true, true, true, true, true, false, true, false, false, false, false, false, false, false, false] rfl rfl (take_ofW HT_.out HW_.out (by kernel_rfl)) (fun _ _ _ h => h) (Or.inl ⟨by rfl, ?_⟩) hHeld ?_ ?_
        rotate_left
        ·
         rintro w' ⟨s0, s1, s2, s3⟩
         go_simp
         with_reducible rfl
        rotate_left
        ·
         simp only [Act.put, List.setIfInBounds_toArray, List.set_cons_zero, List.set_cons_succ, i64_w, i32_w]
         rfl
        refine take_ (i := 40) (N := some 91) (v := ?_) (a' := ?_) #[true, true, true, true, true, true, true, true, true, true, true, true, true, true, true, true, true, true, true, true, true, true, true, true, true, true, true, true, true, true, true, true, true, true, true, true, false, true, false, false, true, false, false, false, false, false] rfl rfl (take_ofW HT_.out HW_.out (by kernel_rfl)) (fun _ _ _ h => h) (Or.inl ⟨by rfl, ?_⟩) hHeld ?_ ?_
        rotate_left
        ·
         rintro w' ⟨s0, s1, s2, s3⟩
         go_simp
         with_reducible rfl
        rotate_left
        ·
         simp only [Act.put, List.setIfInBounds_toArray, List.set_cons_zero, List.set_cons_succ, i64_w, i32_w]
         rfl
        refine take_ (i := 41) (N := some 92) (v := ?_) (a' := ?_) #[true, true, true, true, true, true, true, true, true, true, true, true, true, true, true, true, true, true, true, true, true, true, true, true, true, true, true, true, true, true, true, true, true, true, true, true, false, true, false, false, true, true, false, false, false, false] rfl rfl (take_ofW HT_.out HW_.out (by kernel_rfl)) (fun _ _ _ h => h) (Or.inl ⟨by rfl, ?_⟩) hHeld ?_ ?_
        rotate_left
        ·
         rintro w' ⟨s0, s1, s2, s3⟩
         go_simp
         with_reducible rfl
        rotate_left
        ·
         simp only [Act.put, List.setIfInBounds_toArray, List.set_cons_zero, List.set_cons_succ, i64_w, i32_w]
         rfl
        refine one_ (i := 36) (N := some 87) #[true, true, true, true, true, true, true, true, true, true, true, true, true, true, true, true, true, true, true, true, true, true, true, true, true, true, true, true, true, true, true, true, true, true, true, true, true, true, false, false, true, true, false, false, false, false] rfl rfl (one_of HT_.out (by kernel_rfl)) (by decide) (fun K hK => ?_)
        refine goes_ Try.func14 (by kernel_rfl) rfl #[.agg #[.bool a0_0, .int .i64 a0_1]] (by rfl) rfl rfl (mapq rfl) ?_
        with_reducible refine (avermentlaw09_To.calls a0_0 a0_1 t226 t227 _ A78.out).mono ?_
        rintro e w95 ⟨rfl, hb⟩
        refine ⟨_, rfl, ?_⟩
        replace BK184 := bb BK184 hb rfl; replace BK185 := bb BK185 hb rfl; replace BK193 := bb BK193 hb rfl; replace BK197 := bb BK197 hb rfl; replace HB := hst HB hb rfl
        (try clear hb)
        refine hK.out _ _ ⟨bc BK184 0 rfl, bc BK184 1 rfl, bc BK185 0 rfl, bc BK185 1 rfl⟩ (fun hHeld => ?_)
        clear hK K
        refine norm_ (a' := ?_) ?_ ?_
        rotate_left; · (show Act.put _ (some 87) _ = _; simp only [Act.put, List.setIfInBounds_toArray, List.set_cons_zero, List.set_cons_succ, i64_w, i32_w]; rfl)
        refine one_ (i := 38) (N := some 89) #[true, true, true, true, true, true, true, true, true, true, true, true, true, true, true, true, true, true, true, true, true, true, true, true, true, true, true, true, true, true, true, true, true, true, true, true, true, true, true, false, true, true, false, false, false, false] rfl rfl (one_of HT_.out (by kernel_rfl)) (by decide) (fun K hK => ?_)
        refine goes_ Try.func14 (by kernel_rfl) rfl #[.agg #[.bool a1_0, .int .i64 a1_1]] (by rfl) rfl rfl (mapq rfl) ?_
        with_reducible refine (avermentlaw09_To.calls a1_0 a1_1 t228 t229 _ A79.out).mono ?_
        rintro e w96 ⟨rfl, hb⟩
        refine ⟨_, rfl, ?_⟩
        replace BK184 := bb BK184 hb rfl; replace BK185 := bb BK185 hb rfl; replace BK193 := bb BK193 hb rfl; replace BK197 := bb BK197 hb rfl; replace HB := hst HB hb rfl
        (try clear hb)
        refine hK.out _ _ ⟨bc BK184 0 rfl, bc BK184 1 rfl, bc BK185 0 rfl, bc BK185 1 rfl⟩ (fun hHeld => ?_)
        clear hK K
        refine norm_ (a' := ?_) ?_ ?_
        rotate_left; · (show Act.put _ (some 89) _ = _; simp only [Act.put, List.setIfInBounds_toArray, List.set_cons_zero, List.set_cons_succ, i64_w, i32_w]; rfl)
        refine one_ (i := 39) (N := some 90) #[true, true, true, true, true, true, true, true, true, true, true, true, true, true, true, true, true, true, true, true, true, true, true, true, true, true, true, true, true, true, true, true, true, true, true, true, true, true, true, true, true, true, false, false, false, false] rfl rfl (one_of HT_.out (by kernel_rfl)) (by decide) (fun K hK => ?_)
        refine goes_ Try.func25 (by kernel_rfl) rfl #[.agg #[.bool t226, .int .i64 t227], .agg #[.bool t228, .int .i64 t229]] (by rfl) rfl rfl (mapq rfl) ?_
        with_reducible refine (known_Within.calls t226 t227 t228 t229 t230 _ A80.out).mono ?_
        rintro e w97 ⟨rfl, hb⟩
        refine ⟨_, rfl, ?_⟩
        replace BK184 := bb BK184 hb rfl; replace BK185 := bb BK185 hb rfl; replace BK193 := bb BK193 hb rfl; replace BK197 := bb BK197 hb rfl; replace HB := hst HB hb rfl
        (try clear hb)
        refine hK.out _ _ ⟨bc BK184 0 rfl, bc BK184 1 rfl, bc BK185 0 rfl, bc BK185 1 rfl⟩ (fun hHeld => ?_)
        clear hK K
        refine norm_ (a' := ?_) ?_ ?_
        rotate_left; · (show Act.put _ (some 90) _ = _; simp only [Act.put, List.setIfInBounds_toArray, List.set_cons_zero, List.set_cons_succ, i64_w, i32_w]; rfl)
        refine one_ (i := 42) (N := some 93) #[true, true, true, true, true, true, true, true, true, true, true, true, true, true, true, true, true, true, true, true, true, true, true, true, true, true, true, true, true, true, true, true, true, true, true, true, true, true, true, true, true, true, true, false, false, false] rfl rfl (one_of HT_.out (by kernel_rfl)) (by decide) (fun K hK => ?_)
        refine goes_ Try.func26 (by kernel_rfl) rfl #[.agg #[.bool a0_0, .int .i64 a0_1], .agg #[.bool a1_0, .int .i64 a1_1]] (by rfl) rfl rfl (mapq rfl) ?_
        with_reducible refine (avermentref09_Within.calls a0_0 a0_1 a1_0 a1_1 t231 _ A81.out).mono ?_
        rintro e w98 ⟨rfl, hb⟩
        refine ⟨_, rfl, ?_⟩
        replace BK184 := bb BK184 hb rfl; replace BK185 := bb BK185 hb rfl; replace BK193 := bb BK193 hb rfl; replace BK197 := bb BK197 hb rfl; replace HB := hst HB hb rfl
        (try clear hb)
        refine hK.out _ _ ⟨bc BK184 0 rfl, bc BK184 1 rfl, bc BK185 0 rfl, bc BK185 1 rfl⟩ (fun hHeld => ?_)
        clear hK K
        refine norm_ (a' := ?_) ?_ ?_
        rotate_left; · (show Act.put _ (some 93) _ = _; simp only [Act.put, List.setIfInBounds_toArray, List.set_cons_zero, List.set_cons_succ, i64_w, i32_w]; rfl)
        refine pure_ (i := 43) (N := some 94) (v := ?_) (a' := ?_) #[true, true, true, true, true, true, true, true, true, true, true, true, true, true, true, true, true, true, true, true, true, true, true, true, true, true, true, true, true, true, true, true, true, true, true, true, true, true, true, true, true, true, true, true, false, false] rfl rfl (any_of HT_.out (by kernel_rfl)) (fun _ _ _ h => h) (Or.inl ⟨by rfl, ?_⟩) ?_ ?_
        rotate_left; · (intro w'; go_simp; with_reducible rfl)
        rotate_left; · (simp only [Act.put, List.setIfInBounds_toArray, List.set_cons_zero, List.set_cons_succ, i64_w, i32_w]; rfl)
        refine pure_ (i := 44) (N := some 95) (v := ?_) (a' := ?_) #[true, true, true, true, true, true, true, true, true, true, true, true, true, true, true, true, true, true, true, true, true, true, true, true, true, true, true, true, true, true, true, true, true, true, true, true, true, true, true, true, true, true, true, true, true, false] rfl rfl (any_of HT_.out (by kernel_rfl)) (fun _ _ _ h => h) (Or.inl ⟨by rfl, ?_⟩) ?_ ?_
        rotate_left; · (intro w'; go_simp; with_reducible rfl)
        rotate_left; · (simp only [Act.put, List.setIfInBounds_toArray, List.set_cons_zero, List.set_cons_succ, i64_w, i32_w]; rfl)
        refine pure_ (i := 45) (N := some 6) (v := ?_) (a' := ?_) #[true, true, true, true, true, true, true, true, true, true, true, true, true, true, true, true, true, true, true, true, true, true, true, true, true, true, true, true, true, true, true, true, true, true, true, true, true, true, true, true, true, true, true, true, true, true] rfl rfl (any_of HT_.out (by kernel_rfl)) (fun _ _ _ h => h) (Or.inl ⟨by rfl, ?_⟩) ?_ ?_
        rotate_left; · (intro w'; go_simp; with_reducible rfl)
        rotate_left; · (simp only [Act.put, List.setIfInBounds_toArray, List.set_cons_zero, List.set_cons_succ, i64_w, i32_w]; rfl)
        refine done_ (done_of HT_.out (by kernel_rfl)) ?_
        try go_wp2
        go_ret
        exact ⟨by first | rfl | (simp [errW_none, errW_some] <;> rfl) | (simp [*, errW_none, errW_some] <;> rfl), by repeat (first | (with_reducible first | exact HB.out | apply below_alloc | apply pw_below_drewN | apply below_drew1 | refine below_set ?_ GE184.out | refine below_set ?_ GE185.out | refine below_set ?_ GE193.out | refine below_set ?_ GE197.out) | exact HB.out)⟩
       ·
        rw [if_neg c77] at H
        have c77b0 : (t222 == t224 && (t223 == t225)) = false := by simpa using c77
        (try (have c77b1 : decide (t222 = t224 && (t223 == t225)) = false := by simpa using c77))
        (try (have c77b2 : (t222 == t224 && (t223 == t225)) = false := by simpa using c77))
        (try (have c77b3 : ¬ (t222 = t224 && (t223 == t225)) := by simpa using c77))
        clear c77
        exact absurd ((Option.some.inj H).trans hr_.out) (by decide)
      ·
       rw [if_neg c71] at H
       have c71b0 : (t214 == t215) = false := by simpa using c71
       (try (have c71b1 : decide (t214 = t215) = false := by simpa using c71))
       (try (have c71b2 : (t214 == t215) = false := by simpa using c71))
       (try (have c71b3 : ¬ (t214 = t215) := by simpa using c71))
       clear c71
       exact absurd ((Option.some.inj H).trans hr_.out) (by decide)
     ·
      rw [if_neg c67] at H
      have c67b0 : (!t210 && (t211 == 0)) = false := by simpa using c67
      clear c67
      exact absurd ((Option.some.inj H).trans hr_.out) (by decide)
    ·
     rw [if_neg c64] at H
     have c64b0 : (t206 && (t207 == a2)) = false := by simpa using c64
     clear c64
     exact absurd ((Option.some.inj H).trans hr_.out) (by decide)

end Go.Proofs.Ytpacmhhaabhdjaa.KN
