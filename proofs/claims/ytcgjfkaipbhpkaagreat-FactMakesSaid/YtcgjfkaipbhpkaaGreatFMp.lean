-- Cut out of what print.sh wrote for this seat: the functions that are named below, as printed. Lean checks it.
import Derived.Test.YtcgjfkaipbhpkaaGreatPFactMakesx0
namespace Go.Proofs.YtcgjfkaipbhpkaaGreat.PFactMakes
open Go.RowKit Go.Proofs.YtcgjfkaipbhpkaaGreatW.PrintWords Go.Proofs.YtcgjfkaipbhpkaaGreatW.PrintLast Go.Proofs.YtcgjfkaipbhpkaaGreatW.PrintMore
attribute [local go_sem] max2_int min2_int max_two min_two max_three min_three max_four min_four   -- for this text's walks alone
set_option linter.unusedVariables false
set_option linter.unusedSimpArgs false

/-! ### avermentref08_Nums: function 56 -/
def avermentref08_Nums.f  : Option (List Int) := some (([(-9223372036854775808), (-9223372036854775807), (-4294967296), (-2147483648), (-3), (-2), (-1), 0, 1, 2, 3, 2147483648, 4294967296, 4611686018427387904, 9223372036854775806, 9223372036854775807] : List Int))
set_option maxHeartbeats 8000000 in
set_option maxRecDepth 100000 in
theorem avermentref08_Nums.calls  (r : List Int) (w : World) (h : avermentref08_Nums.f  = some r) :
    Calls Tryz.prog 56 #[] w fun e w' => ∃ v0_ : Value, e = .returned (v0_) ∧ Kd.R (Kd.int .i64) 2 w' w.heap.size (fun _ => True) v0_ r ∧ Below w.heap.size w w' := by
  have HB := Aside0.mk (Below.refl w.heap.size w)
  have H : (some (([(-9223372036854775808), (-9223372036854775807), (-4294967296), (-2147483648), (-3), (-2), (-1), 0, 1, 2, 3, 2147483648, 4294967296, 4611686018427387904, 9223372036854775806, 9223372036854775807] : List Int))) = some r := h
  clear h
  obtain ⟨y179, hy179⟩ : ∃ y_ : List Int, y_ = (([(-9223372036854775808), (-9223372036854775807), (-4294967296), (-2147483648), (-3), (-2), (-1), 0, 1, 2, 3, 2147483648, 4294967296, 4611686018427387904, 9223372036854775806, 9223372036854775807] : List Int)) := ⟨_, rfl⟩
  replace H : (some y179) = some r := by first | (rw [hy179]; with_reducible exact H) | (have H2_ := (Option.bind_some _ _).symm.trans H; rw [hy179]; with_reducible exact H2_) | (have H2_ := (Option.bind_some _ _).symm.trans H; with_reducible exact H2_) | with_reducible exact H | (rw [hy179]; exact H) | exact H
  have Ny179 := Aside0.mk hy179
  clear hy179
  obtain rfl := Option.some.inj H
  go_enter Tryz.func56, Tryz.ntmps56
  go_wp2_with (first | ((with_reducible refine gate_dst (N := 1) rfl ?_); refine Kd.R_lit (Kd.int .i64) _ 2 ?hg (N := 1) ?hd (xs := ([(-9223372036854775808), (-9223372036854775807), (-4294967296), (-2147483648), (-3), (-2), (-1), 0, 1, 2, 3, 2147483648, 4294967296, 4611686018427387904, 9223372036854775806, 9223372036854775807] : List Int)) (inner := [.int .i64 (-9223372036854775808), .int .i64 (-9223372036854775807), .int .i64 (-4294967296), .int .i64 (-2147483648), .int .i64 (-3), .int .i64 (-2), .int .i64 (-1), .int .i64 0, .int .i64 1, .int .i64 2, .int .i64 3, .int .i64 2147483648, .int .i64 4294967296, .int .i64 4611686018427387904, .int .i64 9223372036854775806, .int .i64 9223372036854775807]) (ok := fun _ => True) (okp := fun _ => True) ?hr ?hp (fun _ hk => hk) trivial (Below.refl _ _) (Nat.le_refl _) (by simp) ?_; (case hd => rfl); (case hg => rfl); (case hr => first | (go_simp; done) | (go_simp; rfl)); (case hp => exact (Reps.one (show Kd.M (Kd.int .i64) _ _ _ (-9223372036854775808) [.int .i64 (-9223372036854775808)] from rfl) (Reps.one (show Kd.M (Kd.int .i64) _ _ _ (-9223372036854775807) [.int .i64 (-9223372036854775807)] from rfl) (Reps.one (show Kd.M (Kd.int .i64) _ _ _ (-4294967296) [.int .i64 (-4294967296)] from rfl) (Reps.one (show Kd.M (Kd.int .i64) _ _ _ (-2147483648) [.int .i64 (-2147483648)] from rfl) (Reps.one (show Kd.M (Kd.int .i64) _ _ _ (-3) [.int .i64 (-3)] from rfl) (Reps.one (show Kd.M (Kd.int .i64) _ _ _ (-2) [.int .i64 (-2)] from rfl) (Reps.one (show Kd.M (Kd.int .i64) _ _ _ (-1) [.int .i64 (-1)] from rfl) (Reps.one (show Kd.M (Kd.int .i64) _ _ _ 0 [.int .i64 0] from rfl) (Reps.one (show Kd.M (Kd.int .i64) _ _ _ 1 [.int .i64 1] from rfl) (Reps.one (show Kd.M (Kd.int .i64) _ _ _ 2 [.int .i64 2] from rfl) (Reps.one (show Kd.M (Kd.int .i64) _ _ _ 3 [.int .i64 3] from rfl) (Reps.one (show Kd.M (Kd.int .i64) _ _ _ 2147483648 [.int .i64 2147483648] from rfl) (Reps.one (show Kd.M (Kd.int .i64) _ _ _ 4294967296 [.int .i64 4294967296] from rfl) (Reps.one (show Kd.M (Kd.int .i64) _ _ _ 4611686018427387904 [.int .i64 4611686018427387904] from rfl) (Reps.one (show Kd.M (Kd.int .i64) _ _ _ 9223372036854775806 [.int .i64 9223372036854775806] from rfl) (Reps.one (show Kd.M (Kd.int .i64) _ _ _ 9223372036854775807 [.int .i64 9223372036854775807] from rfl) (Reps.none _ _)))))))))))))))))); intro v180 w1 ho2 hb hg_ hnew_; clear hg_ hnew_; (first | rw [← Ny179.out] at ho2 | (simp only [Int.reduceToNat] at ho2; rw [← Ny179.out] at ho2)); have n0_ := Aside0.mk (Kd.R_lower ho2 (below_size (by repeat (first | (with_reducible first | exact HB.out | apply below_alloc | apply pw_below_drewN | apply below_drew1) | exact HB.out)))); have n1_ := Aside0.mk (below_step (by repeat (first | (with_reducible first | exact HB.out | apply below_alloc | apply pw_below_drewN | apply below_drew1) | exact HB.out)) hb); clear HB; have HO181 := n0_; have HB := n1_; clear n0_ n1_; clear hb ho2))
  go_ret
  exact ⟨_, by first | rfl | (simp [errW_none, errW_some] <;> rfl) | (simp [*, errW_none, errW_some] <;> rfl), by (with_reducible repeat (first | apply Kd.R_alloc | apply Kd.R_drewN | apply Kd.R_drew)); exact HO181.out, by repeat (first | (with_reducible first | exact HB.out | apply below_alloc | apply pw_below_drewN | apply below_drew1) | exact HB.out)⟩

/-! ### avermentref08_Of: function 58 -/
def avermentref08_Of.f (a0 : Int) : Option (Int) := if a0 < 0 then (some 1) else (if a0 = 0 then (some 2) else (some 4))
set_option maxHeartbeats 8000000 in
set_option maxRecDepth 100000 in
theorem avermentref08_Of.calls (a0 : Int) (r : Int) (w : World) (h : avermentref08_Of.f a0 = some r) :
    Calls Tryz.prog 58 #[.int .i64 a0] w fun e w' => e = .returned (.int .i64 r) ∧ Drawn0 w w' := by
  have H : (if a0 < 0 then (some 1) else (if a0 = 0 then (some 2) else (some 4))) = some r := h
  clear h
  by_cases c2 : a0 < 0
  · rw [if_pos c2] at H
    have c2b0 : decide (a0 < 0) = true := decide_eq_true c2
    clear c2
    obtain rfl := Option.some.inj H
    go_enter Tryz.func58, Tryz.ntmps58
    go_wp2
    go_ret
    exact ⟨by first | rfl | (simp; done) | (simp [*]; done), by repeat (first | exact Drawn0.refl _ | apply Drawn0.step)⟩
  · rw [if_neg c2] at H
    have c2b0 : decide (a0 < 0) = false := decide_eq_false c2
    clear c2
    by_cases c3 : a0 = 0
    · rw [if_pos c3] at H
      have c3b0 : (a0 == 0) = true := beq_iff_eq.mpr c3
      have c3b1 : (a0 != 0) = false := bne_eq_false_iff_eq.mpr c3
      clear c3
      obtain rfl := Option.some.inj H
      go_enter Tryz.func58, Tryz.ntmps58
      go_wp2
      go_ret
      exact ⟨by first | rfl | (simp; done) | (simp [*]; done), by repeat (first | exact Drawn0.refl _ | apply Drawn0.step)⟩
    · rw [if_neg c3] at H
      have c3b0 : (a0 == 0) = false := beq_eq_false_iff_ne.mpr c3
      have c3b1 : (a0 != 0) = true := bne_iff_ne.mpr c3
      obtain rfl := Option.some.inj H
      go_enter Tryz.func58, Tryz.ntmps58
      go_wp2
      go_ret
      exact ⟨by first | rfl | (simp; done) | (simp [*]; done), by repeat (first | exact Drawn0.refl _ | apply Drawn0.step)⟩

/-! ### avermentref08_Has: function 57 -/
def avermentref08_Has.f (a0 : Int) (a1 : Int) : Option (Bool) := (avermentref08_Of.f a1).bind fun t182 => (some ((Go.bits .and .i64 a0 t182) != 0))
set_option maxHeartbeats 8000000 in
set_option maxRecDepth 100000 in
theorem avermentref08_Has.calls (a0 : Int) (a1 : Int) (r : Bool) (w : World) (h : avermentref08_Has.f a0 a1 = some r) :
    Calls Tryz.prog 57 #[.int .i64 a0, .int .i64 a1] w fun e w' => e = .returned (.bool r) ∧ Drawn0 w w' := by
  have H : ((avermentref08_Of.f a1).bind fun t182 => (some ((Go.bits .and .i64 a0 t182) != 0))) = some r := h
  clear h
  replace H := Option.bind_eq_some_iff.mp H
  obtain ⟨t182, A30, H⟩ := H
  replace H : (some ((Go.bits .and .i64 a0 t182) != 0)) = some r := H
  have A3 := Aside0.mk A30
  clear A30
  obtain rfl := Option.some.inj H
  go_enter Tryz.func57, Tryz.ntmps57
  go_wp2_with (first | ((with_reducible refine gate_callee (f := 58) rfl ?_); refine goesL_ (some 7) rfl rfl Tryz.func58 (by kernel_rfl) rfl #[.int .i64 a1] rfl (by (try simp only [List.map_toArray, List.map_cons, List.map_nil]); first | done | rfl | (simp only [List.length_drop, List.length_take]; rfl)) ?_; (with_reducible refine (avermentref08_Of.calls a1 t182 _ A3.out).mono ?_); rintro e w' ⟨rfl, ⟨nd, rfl⟩⟩; refine ⟨_, rfl, ?_⟩))
  go_ret
  exact ⟨by first | rfl | (simp; done) | (simp [*]; done), by repeat (first | exact Drawn0.refl _ | apply Drawn0.step)⟩

/-! ### avermentref08_One: function 26 -/
mutual
def avermentref08_One.l0 : Nat → Int → Int → Int → List Int → Int → Option (Int)
  | 0, _, _, _, _, _ => none
  | k + 1, x0, x1, x5, x6, x7 => if x7 < (x6.length : Int) then (if 0 ≤ x7 then ((avermentref08_Has.f x1 (rd x6 x7)).bind fun t187 => (if t187 = true then (avermentref08_One.j1 k x0 x1 x5 x6 x7 (x0 == 2)) else (avermentref08_One.j1 k x0 x1 x5 x6 x7 false))) else (none)) else (some x5)
def avermentref08_One.j1 : Nat → Int → Int → Int → List Int → Int → Bool → Option (Int)
  | 0, _, _, _, _, _, _ => none
  | k + 1, x0, x1, x5, x6, x7, x24 => if x24 = true then (if 0 ≤ x7 then (if x7 < (x6.length : Int) then ((avermentref08_Of.f (rd x6 x7)).bind fun t189 => (avermentref08_One.j2 k x0 x1 (Go.bits .or .i64 x5 t189) x6 x7)) else (none)) else (none)) else (avermentref08_One.j2 k x0 x1 x5 x6 x7)
def avermentref08_One.j2 : Nat → Int → Int → Int → List Int → Int → Option (Int)
  | 0, _, _, _, _, _ => none
  | k + 1, x0, x1, x5, x6, x7 => if 0 ≤ x7 then (if x7 < (x6.length : Int) then ((avermentref08_Has.f x1 (rd x6 x7)).bind fun t191 => (if t191 = true then (if x0 = 3 then ((avermentref08_Of.f (wrap64 (-(rd x6 x7)))).bind fun t193 => (avermentref08_One.l0 k x0 x1 (Go.bits .or .i64 x5 t193) x6 (wrap64 (x7 + 1)))) else (avermentref08_One.l0 k x0 x1 x5 x6 (wrap64 (x7 + 1)))) else (avermentref08_One.l0 k x0 x1 x5 x6 (wrap64 (x7 + 1))))) else (none)) else (none)
end
def avermentref08_One.f (k : Nat) (a0 : Int) (a1 : Int) : Option (Int) := (avermentref08_Nums.f).bind fun t183 => (avermentref08_One.l0 k a0 a1 0 t183 0)
theorem avermentref08_One.mono_l : ∀ k, (∀ y0 y1 y2 y3 y4, LeO (avermentref08_One.l0 k y0 y1 y2 y3 y4) (avermentref08_One.l0 (k + 1) y0 y1 y2 y3 y4)) ∧ (∀ y0 y1 y2 y3 y4 y5, LeO (avermentref08_One.j1 k y0 y1 y2 y3 y4 y5) (avermentref08_One.j1 (k + 1) y0 y1 y2 y3 y4 y5)) ∧ (∀ y0 y1 y2 y3 y4, LeO (avermentref08_One.j2 k y0 y1 y2 y3 y4) (avermentref08_One.j2 (k + 1) y0 y1 y2 y3 y4))
  | 0 => ⟨fun _ _ _ _ _ r h => by simp [avermentref08_One.l0] at h, fun _ _ _ _ _ _ r h => by simp [avermentref08_One.j1] at h, fun _ _ _ _ _ r h => by simp [avermentref08_One.j2] at h⟩
  | k + 1 => by
    obtain ⟨ih0, ih1, ih2⟩ := avermentref08_One.mono_l k
    refine ⟨?_, ?_, ?_⟩
    · intro y0 y1 y2 y3 y4
      unfold avermentref08_One.l0
      repeat' first
      | (with_reducible exact ih0 _ _ _ _ _)
      | (with_reducible exact ih1 _ _ _ _ _ _)
      | (with_reducible exact ih2 _ _ _ _ _)
      | (with_reducible exact LeO.refl _)
      | (with_reducible exact LeO.none _)
      | (with_reducible refine LeO.ite ?_ ?_)
      | (with_reducible refine LeO.bind ?_ (fun _ => ?_))
      | exact ih0 _ _ _ _ _
      | exact ih1 _ _ _ _ _ _
      | exact ih2 _ _ _ _ _
      | exact LeO.none _
      | refine LeO.ite ?_ ?_
      | refine LeO.bind ?_ (fun _ => ?_)
    · intro y0 y1 y2 y3 y4 y5
      unfold avermentref08_One.j1
      repeat' first
      | (with_reducible exact ih0 _ _ _ _ _)
      | (with_reducible exact ih1 _ _ _ _ _ _)
      | (with_reducible exact ih2 _ _ _ _ _)
      | (with_reducible exact LeO.refl _)
      | (with_reducible exact LeO.none _)
      | (with_reducible refine LeO.ite ?_ ?_)
      | (with_reducible refine LeO.bind ?_ (fun _ => ?_))
      | exact ih0 _ _ _ _ _
      | exact ih1 _ _ _ _ _ _
      | exact ih2 _ _ _ _ _
      | exact LeO.none _
      | refine LeO.ite ?_ ?_
      | refine LeO.bind ?_ (fun _ => ?_)
    · intro y0 y1 y2 y3 y4
      unfold avermentref08_One.j2
      repeat' first
      | (with_reducible exact ih0 _ _ _ _ _)
      | (with_reducible exact ih1 _ _ _ _ _ _)
      | (with_reducible exact ih2 _ _ _ _ _)
      | (with_reducible exact LeO.refl _)
      | (with_reducible exact LeO.none _)
      | (with_reducible refine LeO.ite ?_ ?_)
      | (with_reducible refine LeO.bind ?_ (fun _ => ?_))
      | exact ih0 _ _ _ _ _
      | exact ih1 _ _ _ _ _ _
      | exact ih2 _ _ _ _ _
      | exact LeO.none _
      | refine LeO.ite ?_ ?_
      | refine LeO.bind ?_ (fun _ => ?_)
theorem avermentref08_One.mono : ∀ a0 a1 k, LeO (avermentref08_One.f k a0 a1) (avermentref08_One.f (k + 1) a0 a1) := by
  intro a0 a1 k
  obtain ⟨ih0, ih1, ih2⟩ := avermentref08_One.mono_l k
  unfold avermentref08_One.f
  repeat' first
      | (with_reducible exact ih0 _ _ _ _ _)
      | (with_reducible exact ih1 _ _ _ _ _ _)
      | (with_reducible exact ih2 _ _ _ _ _)
      | (with_reducible exact LeO.refl _)
      | (with_reducible exact LeO.none _)
      | (with_reducible refine LeO.ite ?_ ?_)
      | (with_reducible refine LeO.bind ?_ (fun _ => ?_))
      | exact ih0 _ _ _ _ _
      | exact ih1 _ _ _ _ _ _
      | exact ih2 _ _ _ _ _
      | exact LeO.none _
      | refine LeO.ite ?_ ?_
      | refine LeO.bind ?_ (fun _ => ?_)
set_option maxHeartbeats 8000000 in
set_option maxRecDepth 100000 in
theorem avermentref08_One.calls (k : Nat) (a0 : Int) (a1 : Int) (r : Int) (w : World) (h : avermentref08_One.f k a0 a1 = some r) :
    Calls Tryz.prog 26 #[.int .i64 a0, .int .i64 a1] w fun e w' => e = .returned (.int .i64 r) ∧ Below w.heap.size w w' := by
  have HB := Aside0.mk (Below.refl w.heap.size w)
  have H : ((avermentref08_Nums.f).bind fun t183 => (avermentref08_One.l0 k a0 a1 0 t183 0)) = some r := h
  clear h
  replace H := Option.bind_eq_some_iff.mp H
  obtain ⟨t183, A30, H⟩ := H
  replace H : (avermentref08_One.l0 k a0 a1 0 t183 0) = some r := H
  have A3 := Aside0.mk A30
  clear A30
  have H' := Aside0.mk H
  clear H
  go_enter Tryz.func26, Tryz.ntmps26
  go_wp2_with (first | ((with_reducible refine gate_callee (f := 56) rfl ?_); refine goesL_ (some 8) rfl rfl Tryz.func56 (by kernel_rfl) rfl #[] rfl (by (try simp only [List.map_toArray, List.map_cons, List.map_nil]); first | done | rfl | (simp only [List.length_drop, List.length_take]; rfl)) ?_; (with_reducible refine (avermentref08_Nums.calls  t183 _ A3.out).mono ?_); rintro e w4 ⟨v184, rfl, ho0, hb⟩; refine ⟨_, rfl, ?_⟩; have n0_ := Aside0.mk (Kd.R_lower ho0 (below_size (by repeat (first | (with_reducible first | exact HB.out | apply below_alloc | apply pw_below_drewN | apply below_drew1) | exact HB.out)))); have n1_ := Aside0.mk (below_step (by repeat (first | (with_reducible first | exact HB.out | apply below_alloc | apply pw_below_drewN | apply below_drew1) | exact HB.out)) hb); clear HB; have HO185 := n0_; have HB := n1_; clear n0_ n1_; (try clear hb); (try clear hb2); (try clear hk); (try clear hi); (try clear ho0)))
  go_loopg [5, 7] k (fun kq v5 v7 w' => ∃ (x5_1 : Int) (x7_1 : Int), v5 = .int .i64 x5_1 ∧ v7 = .int .i64 x7_1 ∧ Aside0 (avermentref08_One.l0 kq a0 a1 x5_1 t183 x7_1 = some r) ∧ Aside0 (kq ≤ k) ∧ Aside0 (Kd.R (Kd.int .i64) 2 w' w.heap.size (fun _ => True) v184 t183) ∧ Aside0 (Below w.heap.size w w'))
  case atStart => exact ⟨(0), (0), (by first | rfl | (simp; done) | (simp [*]; done)), (by first | rfl | (simp; done) | (simp [*]; done)), H', ⟨Nat.le_refl _⟩, ⟨by (with_reducible repeat (first | apply Kd.R_alloc | apply Kd.R_drewN | apply Kd.R_drew)); exact HO185.out⟩, ⟨by repeat (first | (with_reducible first | exact HB.out | apply below_alloc | apply pw_below_drewN | apply below_drew1) | exact HB.out)⟩⟩
  case round =>
    clear H'
    try clear c2
    try clear p2
    obtain ⟨x5_1, x7_1, rfl, rfl, HA, HK1, HO_6, HB⟩ := hrel
    cases gk with
    | zero => exact absurd HA.out (by simp [avermentref08_One.l0])
    | succ k1 =>
      have H := HA.out
      clear HA
      simp only [avermentref08_One.l0] at H
      by_cases c5 : x7_1 < (t183.length : Int)
      · rw [if_pos c5] at H
        have c5b0 : decide (x7_1 < (t183.length : Int)) = true := decide_eq_true c5
        clear c5
        have HC6 := Aside0.mk H
        clear H
        obtain ⟨Ao7, co7, eo7⟩ := Kd.R_slice HO_6.out
        subst eo7
        go_upto_region 6 with (fail)
        go_cut [24] (fun v24 wc => ∃ (kq : Nat) (x24_5 : Bool), v24 = .bool x24_5 ∧ Aside0 (avermentref08_One.j1 kq a0 a1 x5_1 t183 x7_1 x24_5 = some r) ∧ Aside0 (kq ≤ k1) ∧ Aside0 (Kd.R (Kd.int .i64) 2 wc w.heap.size (fun _ => True) (.slice Ao7 t183.length co7) t183) ∧ Aside0 (Below w.heap.size w wc))
        case first =>
          have H := HC6.out
          clear HC6
          by_cases c8 : 0 ≤ x7_1
          · rw [if_pos c8] at H
            have c8b0 : decide (0 ≤ x7_1) = true := decide_eq_true c8
            clear c8
            (first | rw [c8b0] | (simp only [i64_w, i32_w]; rw [c8b0]) | skip)
            replace H := Option.bind_eq_some_iff.mp H
            obtain ⟨t187, A90, H⟩ := H
            replace H : (if t187 = true then (avermentref08_One.j1 k1 a0 a1 x5_1 t183 x7_1 (a0 == 2)) else (avermentref08_One.j1 k1 a0 a1 x5_1 t183 x7_1 false)) = some r := H
            have A9 := Aside0.mk A90
            clear A90
            by_cases c10 : t187 = true
            · subst c10
              have H1 : (avermentref08_One.j1 k1 a0 a1 x5_1 t183 x7_1 (a0 == 2)) = some r := by rw [if_pos rfl] at H; exact H
              clear H
              have H := H1
              clear H1
              have H' := Aside0.mk H
              clear H
              have p186 : 0 ≤ (x7_1 : Int) := of_decide_eq_true (by first | (with_reducible assumption) | assumption)
              have q186 : x7_1 < (t183.length : Int) := of_decide_eq_true (by first | (with_reducible assumption) | assumption)
              obtain ⟨ad186, e186, hx186_0⟩ := Kd.at_int (Kd.R_reads' HO_6.out).2.2 x7_1 p186 q186
              cases e186
              replace p186 := eq_true p186
              replace q186 := eq_true q186
              go_wp2_with (first | ((with_reducible refine gate_callee (f := 57) rfl ?_); refine goesL_ (some 20) rfl rfl Tryz.func57 (by kernel_rfl) rfl #[.int .i64 a1, .int .i64 (rd t183 x7_1)] rfl (by (try simp only [List.map_toArray, List.map_cons, List.map_nil]); first | done | rfl | (simp only [List.length_drop, List.length_take]; rfl)) ?_; (with_reducible refine (avermentref08_Has.calls a1 (rd t183 x7_1) true _ A9.out).mono ?_); rintro e w' ⟨rfl, ⟨nd, rfl⟩⟩; refine ⟨_, rfl, ?_⟩))
              go_meet
              case rel => exact ⟨_, ((a0 == 2)), (by first | rfl | (simp; done) | (simp [*]; done)), H', ⟨by have := HK1.out; first | omega | exact Nat.le_refl _⟩, ⟨by (with_reducible repeat (first | apply Kd.R_alloc | apply Kd.R_drewN | apply Kd.R_drew)); exact HO_6.out⟩, ⟨by repeat (first | (with_reducible first | exact HB.out | apply below_alloc | apply pw_below_drewN | apply below_drew1) | exact HB.out)⟩⟩
            · replace c10 := Bool.eq_false_iff.mpr c10
              subst c10
              have H1 : (avermentref08_One.j1 k1 a0 a1 x5_1 t183 x7_1 false) = some r := by rw [if_neg (show ¬ (false = true) by decide)] at H; exact H
              clear H
              have H := H1
              clear H1
              have H' := Aside0.mk H
              clear H
              have p186 : 0 ≤ (x7_1 : Int) := of_decide_eq_true (by first | (with_reducible assumption) | assumption)
              have q186 : x7_1 < (t183.length : Int) := of_decide_eq_true (by first | (with_reducible assumption) | assumption)
              obtain ⟨ad186, e186, hx186_0⟩ := Kd.at_int (Kd.R_reads' HO_6.out).2.2 x7_1 p186 q186
              cases e186
              replace p186 := eq_true p186
              replace q186 := eq_true q186
              go_wp2_with (first | ((with_reducible refine gate_callee (f := 57) rfl ?_); refine goesL_ (some 20) rfl rfl Tryz.func57 (by kernel_rfl) rfl #[.int .i64 a1, .int .i64 (rd t183 x7_1)] rfl (by (try simp only [List.map_toArray, List.map_cons, List.map_nil]); first | done | rfl | (simp only [List.length_drop, List.length_take]; rfl)) ?_; (with_reducible refine (avermentref08_Has.calls a1 (rd t183 x7_1) false _ A9.out).mono ?_); rintro e w' ⟨rfl, ⟨nd, rfl⟩⟩; refine ⟨_, rfl, ?_⟩))
              go_meet
              case rel => exact ⟨_, (false), (by first | rfl | (simp; done) | (simp [*]; done)), H', ⟨by have := HK1.out; first | omega | exact Nat.le_refl _⟩, ⟨by (with_reducible repeat (first | apply Kd.R_alloc | apply Kd.R_drewN | apply Kd.R_drew)); exact HO_6.out⟩, ⟨by repeat (first | (with_reducible first | exact HB.out | apply below_alloc | apply pw_below_drewN | apply below_drew1) | exact HB.out)⟩⟩
          · rw [if_neg c8] at H
            exact absurd H (by simp)
        case rest =>
          clear HC6
          try clear c1
          try clear p1
          try clear q1
          try clear hx1
          try clear c2
          try clear p2
          try clear c5
          try clear c5b0
          try clear c8
          try clear c8b0
          try clear c10
          try clear hx186_0
          try clear p186
          try clear p2
          try clear q186
          obtain ⟨kq, x24_5, rfl, HA, HJ5, HO_6, HB⟩ := hcut
          cases kq with
          | zero => exact absurd HA.out (by simp [avermentref08_One.j1])
          | succ kj5 =>
            have H := HA.out
            clear HA
            simp only [avermentref08_One.j1] at H
            have HC11 := Aside0.mk H
            clear H
            go_upto_if 24 with (fail)
            go_cut [5] (fun v5 wc => ∃ (kq : Nat) (x5_10 : Int), v5 = .int .i64 x5_10 ∧ Aside0 (avermentref08_One.j2 kq a0 a1 x5_10 t183 x7_1 = some r) ∧ Aside0 (kq ≤ kj5) ∧ Aside0 (Kd.R (Kd.int .i64) 2 wc w.heap.size (fun _ => True) (.slice Ao7 t183.length co7) t183) ∧ Aside0 (Below w.heap.size w wc))
            case first =>
              have H := HC11.out
              clear HC11
              by_cases c12 : x24_5 = true
              · subst c12
                have H1 : (if 0 ≤ x7_1 then (if x7_1 < (t183.length : Int) then ((avermentref08_Of.f (rd t183 x7_1)).bind fun t189 => (avermentref08_One.j2 kj5 a0 a1 (Go.bits .or .i64 x5_1 t189) t183 x7_1)) else (none)) else (none)) = some r := by rw [if_pos rfl] at H; exact H
                clear H
                have H := H1
                clear H1
                by_cases c13 : 0 ≤ x7_1
                · rw [if_pos c13] at H
                  have c13b0 : decide (0 ≤ x7_1) = true := decide_eq_true c13
                  clear c13
                  (first | rw [c13b0] | (simp only [i64_w, i32_w]; rw [c13b0]) | skip)
                  by_cases c14 : x7_1 < (t183.length : Int)
                  · rw [if_pos c14] at H
                    have c14b0 : decide (x7_1 < (t183.length : Int)) = true := decide_eq_true c14
                    clear c14
                    replace H := Option.bind_eq_some_iff.mp H
                    obtain ⟨t189, A150, H⟩ := H
                    replace H : (avermentref08_One.j2 kj5 a0 a1 (Go.bits .or .i64 x5_1 t189) t183 x7_1) = some r := H
                    have A15 := Aside0.mk A150
                    clear A150
                    have H' := Aside0.mk H
                    clear H
                    have p188 : 0 ≤ (x7_1 : Int) := of_decide_eq_true (by first | (with_reducible assumption) | assumption)
                    have q188 : x7_1 < (t183.length : Int) := of_decide_eq_true (by first | (with_reducible assumption) | assumption)
                    obtain ⟨ad188, e188, hx188_0⟩ := Kd.at_int (Kd.R_reads' HO_6.out).2.2 x7_1 p188 q188
                    cases e188
                    replace p188 := eq_true p188
                    replace q188 := eq_true q188
                    go_wp2_with (first | ((with_reducible refine gate_callee (f := 58) rfl ?_); refine goesL_ (some 30) rfl rfl Tryz.func58 (by kernel_rfl) rfl #[.int .i64 (rd t183 x7_1)] rfl (by (try simp only [List.map_toArray, List.map_cons, List.map_nil]); first | done | rfl | (simp only [List.length_drop, List.length_take]; rfl)) ?_; (with_reducible refine (avermentref08_Of.calls (rd t183 x7_1) t189 _ A15.out).mono ?_); rintro e w' ⟨rfl, ⟨nd, rfl⟩⟩; refine ⟨_, rfl, ?_⟩))
                    go_meet
                    case rel => exact ⟨_, (Go.bits .or .i64 x5_1 t189), (by first | rfl | (simp; done) | (simp [*]; done)), H', ⟨by have := HK1.out; have := HJ5.out; first | omega | exact Nat.le_refl _⟩, ⟨by (with_reducible repeat (first | apply Kd.R_alloc | apply Kd.R_drewN | apply Kd.R_drew)); exact HO_6.out⟩, ⟨by repeat (first | (with_reducible first | exact HB.out | apply below_alloc | apply pw_below_drewN | apply below_drew1) | exact HB.out)⟩⟩
                  · rw [if_neg c14] at H
                    exact absurd H (by simp)
                · rw [if_neg c13] at H
                  exact absurd H (by simp)
              · replace c12 := Bool.eq_false_iff.mpr c12
                subst c12
                have H1 : (avermentref08_One.j2 kj5 a0 a1 x5_1 t183 x7_1) = some r := by rw [if_neg (show ¬ (false = true) by decide)] at H; exact H
                clear H
                have H := H1
                clear H1
                have H' := Aside0.mk H
                clear H
                go_wp2
                go_meet
                case rel => exact ⟨_, (x5_1), (by first | rfl | (simp; done) | (simp [*]; done)), H', ⟨by have := HK1.out; have := HJ5.out; first | omega | exact Nat.le_refl _⟩, ⟨by (with_reducible repeat (first | apply Kd.R_alloc | apply Kd.R_drewN | apply Kd.R_drew)); exact HO_6.out⟩, ⟨by repeat (first | (with_reducible first | exact HB.out | apply below_alloc | apply pw_below_drewN | apply below_drew1) | exact HB.out)⟩⟩
            case rest =>
              clear HC11
              try clear c1
              try clear p1
              try clear q1
              try clear hx1
              try clear c2
              try clear p2
              try clear c5
              try clear c5b0
              try clear c8
              try clear c8b0
              try clear c10
              try clear c12
              try clear c13
              try clear c13b0
              try clear c14
              try clear c14b0
              try clear hx186_0
              try clear hx188_0
              try clear p1
              try clear p186
              try clear p188
              try clear p2
              try clear q1
              try clear q186
              try clear q188
              obtain ⟨kq, x5_10, rfl, HA, HJ10, HO_6, HB⟩ := hcut
              cases kq with
              | zero => exact absurd HA.out (by simp [avermentref08_One.j2])
              | succ kj10 =>
                have H := HA.out
                clear HA
                simp only [avermentref08_One.j2] at H
                by_cases c16 : 0 ≤ x7_1
                · rw [if_pos c16] at H
                  have c16b0 : decide (0 ≤ x7_1) = true := decide_eq_true c16
                  clear c16
                  by_cases c17 : x7_1 < (t183.length : Int)
                  · rw [if_pos c17] at H
                    have c17b0 : decide (x7_1 < (t183.length : Int)) = true := decide_eq_true c17
                    clear c17
                    replace H := Option.bind_eq_some_iff.mp H
                    obtain ⟨t191, A180, H⟩ := H
                    replace H : (if t191 = true then (if a0 = 3 then ((avermentref08_Of.f (wrap64 (-(rd t183 x7_1)))).bind fun t193 => (avermentref08_One.l0 kj10 a0 a1 (Go.bits .or .i64 x5_10 t193) t183 (wrap64 (x7_1 + 1)))) else (avermentref08_One.l0 kj10 a0 a1 x5_10 t183 (wrap64 (x7_1 + 1)))) else (avermentref08_One.l0 kj10 a0 a1 x5_10 t183 (wrap64 (x7_1 + 1)))) = some r := H
                    have A18 := Aside0.mk A180
                    clear A180
                    by_cases c19 : t191 = true
                    · subst c19
                      have H1 : (if a0 = 3 then ((avermentref08_Of.f (wrap64 (-(rd t183 x7_1)))).bind fun t193 => (avermentref08_One.l0 kj10 a0 a1 (Go.bits .or .i64 x5_10 t193) t183 (wrap64 (x7_1 + 1)))) else (avermentref08_One.l0 kj10 a0 a1 x5_10 t183 (wrap64 (x7_1 + 1)))) = some r := by rw [if_pos rfl] at H; exact H
                      clear H
                      have H := H1
                      clear H1
                      by_cases c20 : a0 = 3
                      · rw [if_pos c20] at H
                        have c20b0 : (a0 == 3) = true := beq_iff_eq.mpr c20
                        have c20b1 : (a0 != 3) = false := bne_eq_false_iff_eq.mpr c20
                        clear c20
                        replace H := Option.bind_eq_some_iff.mp H
                        obtain ⟨t193, A210, H⟩ := H
                        replace H : (avermentref08_One.l0 kj10 a0 a1 (Go.bits .or .i64 x5_10 t193) t183 (wrap64 (x7_1 + 1))) = some r := H
                        have A21 := Aside0.mk A210
                        clear A210
                        have H' := Aside0.mk H
                        clear H
                        have p190 : 0 ≤ (x7_1 : Int) := of_decide_eq_true (by first | (with_reducible assumption) | assumption)
                        have q190 : x7_1 < (t183.length : Int) := of_decide_eq_true (by first | (with_reducible assumption) | assumption)
                        obtain ⟨ad190, e190, hx190_0⟩ := Kd.at_int (Kd.R_reads' HO_6.out).2.2 x7_1 p190 q190
                        cases e190
                        replace p190 := eq_true p190
                        replace q190 := eq_true q190
                        go_wp2_with (first | ((with_reducible refine gate_callee (f := 57) rfl ?_); refine goesL_ (some 37) rfl rfl Tryz.func57 (by kernel_rfl) rfl #[.int .i64 a1, .int .i64 (rd t183 x7_1)] rfl (by (try simp only [List.map_toArray, List.map_cons, List.map_nil]); first | done | rfl | (simp only [List.length_drop, List.length_take]; rfl)) ?_; (with_reducible refine (avermentref08_Has.calls a1 (rd t183 x7_1) true _ A18.out).mono ?_); rintro e w' ⟨rfl, ⟨nd, rfl⟩⟩; refine ⟨_, rfl, ?_⟩; have p192 : 0 ≤ (x7_1 : Int) := of_decide_eq_true (by first | (with_reducible assumption) | assumption); have q192 : x7_1 < (t183.length : Int) := of_decide_eq_true (by first | (with_reducible assumption) | assumption); obtain ⟨ad192, e192, hx192_0⟩ := Kd.at_int (Kd.R_reads' HO_6.out).2.2 x7_1 p192 q192; obtain rfl : ad190 = ad192 := (by injection e192); replace p192 := eq_true p192; replace q192 := eq_true q192) | ((with_reducible refine gate_callee (f := 58) rfl ?_); refine goesL_ (some 48) rfl rfl Tryz.func58 (by kernel_rfl) rfl #[.int .i64 (wrap64 (-(rd t183 x7_1)))] rfl (by (try simp only [List.map_toArray, List.map_cons, List.map_nil]); first | done | rfl | (simp only [List.length_drop, List.length_take]; rfl)) ?_; (with_reducible refine (avermentref08_Of.calls (wrap64 (-(rd t183 x7_1))) t193 _ A21.out).mono ?_); rintro e w' ⟨rfl, ⟨nd, rfl⟩⟩; refine ⟨_, rfl, ?_⟩))
                        go_roundg kj10
                        case measure => have := HK1.out; have := HJ5.out; have := HJ10.out; omega
                        case rel => exact ⟨(Go.bits .or .i64 x5_10 t193), (wrap64 (x7_1 + 1)), (by first | rfl | (simp; done) | (simp [*]; done)), (by first | rfl | (simp; done) | (simp [*]; done)), H', ⟨by have := HK1.out; have := HJ5.out; have := HJ10.out; omega⟩, ⟨by (with_reducible repeat (first | apply Kd.R_alloc | apply Kd.R_drewN | apply Kd.R_drew)); exact HO_6.out⟩, ⟨by repeat (first | (with_reducible first | exact HB.out | apply below_alloc | apply pw_below_drewN | apply below_drew1) | exact HB.out)⟩⟩
                      · rw [if_neg c20] at H
                        have c20b0 : (a0 == 3) = false := beq_eq_false_iff_ne.mpr c20
                        have c20b1 : (a0 != 3) = true := bne_iff_ne.mpr c20
                        have H' := Aside0.mk H
                        clear H
                        have p190 : 0 ≤ (x7_1 : Int) := of_decide_eq_true (by first | (with_reducible assumption) | assumption)
                        have q190 : x7_1 < (t183.length : Int) := of_decide_eq_true (by first | (with_reducible assumption) | assumption)
                        obtain ⟨ad190, e190, hx190_0⟩ := Kd.at_int (Kd.R_reads' HO_6.out).2.2 x7_1 p190 q190
                        cases e190
                        replace p190 := eq_true p190
                        replace q190 := eq_true q190
                        go_wp2_with (first | ((with_reducible refine gate_callee (f := 57) rfl ?_); refine goesL_ (some 37) rfl rfl Tryz.func57 (by kernel_rfl) rfl #[.int .i64 a1, .int .i64 (rd t183 x7_1)] rfl (by (try simp only [List.map_toArray, List.map_cons, List.map_nil]); first | done | rfl | (simp only [List.length_drop, List.length_take]; rfl)) ?_; (with_reducible refine (avermentref08_Has.calls a1 (rd t183 x7_1) true _ A18.out).mono ?_); rintro e w' ⟨rfl, ⟨nd, rfl⟩⟩; refine ⟨_, rfl, ?_⟩))
                        go_roundg kj10
                        case measure => have := HK1.out; have := HJ5.out; have := HJ10.out; omega
                        case rel => exact ⟨(x5_10), (wrap64 (x7_1 + 1)), (by first | rfl | (simp; done) | (simp [*]; done)), (by first | rfl | (simp; done) | (simp [*]; done)), H', ⟨by have := HK1.out; have := HJ5.out; have := HJ10.out; omega⟩, ⟨by (with_reducible repeat (first | apply Kd.R_alloc | apply Kd.R_drewN | apply Kd.R_drew)); exact HO_6.out⟩, ⟨by repeat (first | (with_reducible first | exact HB.out | apply below_alloc | apply pw_below_drewN | apply below_drew1) | exact HB.out)⟩⟩
                    · replace c19 := Bool.eq_false_iff.mpr c19
                      subst c19
                      have H1 : (avermentref08_One.l0 kj10 a0 a1 x5_10 t183 (wrap64 (x7_1 + 1))) = some r := by rw [if_neg (show ¬ (false = true) by decide)] at H; exact H
                      clear H
                      have H := H1
                      clear H1
                      have H' := Aside0.mk H
                      clear H
                      have p190 : 0 ≤ (x7_1 : Int) := of_decide_eq_true (by first | (with_reducible assumption) | assumption)
                      have q190 : x7_1 < (t183.length : Int) := of_decide_eq_true (by first | (with_reducible assumption) | assumption)
                      obtain ⟨ad190, e190, hx190_0⟩ := Kd.at_int (Kd.R_reads' HO_6.out).2.2 x7_1 p190 q190
                      cases e190
                      replace p190 := eq_true p190
                      replace q190 := eq_true q190
                      go_wp2_with (first | ((with_reducible refine gate_callee (f := 57) rfl ?_); refine goesL_ (some 37) rfl rfl Tryz.func57 (by kernel_rfl) rfl #[.int .i64 a1, .int .i64 (rd t183 x7_1)] rfl (by (try simp only [List.map_toArray, List.map_cons, List.map_nil]); first | done | rfl | (simp only [List.length_drop, List.length_take]; rfl)) ?_; (with_reducible refine (avermentref08_Has.calls a1 (rd t183 x7_1) false _ A18.out).mono ?_); rintro e w' ⟨rfl, ⟨nd, rfl⟩⟩; refine ⟨_, rfl, ?_⟩))
                      go_roundg kj10
                      case measure => have := HK1.out; have := HJ5.out; have := HJ10.out; omega
                      case rel => exact ⟨(x5_10), (wrap64 (x7_1 + 1)), (by first | rfl | (simp; done) | (simp [*]; done)), (by first | rfl | (simp; done) | (simp [*]; done)), H', ⟨by have := HK1.out; have := HJ5.out; have := HJ10.out; omega⟩, ⟨by (with_reducible repeat (first | apply Kd.R_alloc | apply Kd.R_drewN | apply Kd.R_drew)); exact HO_6.out⟩, ⟨by repeat (first | (with_reducible first | exact HB.out | apply below_alloc | apply pw_below_drewN | apply below_drew1) | exact HB.out)⟩⟩
                  · rw [if_neg c17] at H
                    exact absurd H (by simp)
                · rw [if_neg c16] at H
                  exact absurd H (by simp)
      · rw [if_neg c5] at H
        have c5b0 : decide (x7_1 < (t183.length : Int)) = false := decide_eq_false c5
        clear c5
        obtain rfl := Option.some.inj H
        obtain ⟨Ao22, co22, eo22⟩ := Kd.R_slice HO_6.out
        subst eo22
        go_wp2
        go_ret
        exact ⟨by first | rfl | (simp [errW_none, errW_some] <;> rfl) | (simp [*, errW_none, errW_some] <;> rfl), by repeat (first | (with_reducible first | exact HB.out | apply below_alloc | apply pw_below_drewN | apply below_drew1) | exact HB.out)⟩

/-! ### avermentref07_Arith: function 89 -/
def avermentref07_Arith.f (a0 : Int) (a1 : Int) (a2 : Int) : Option (Int × Bool) := if a0 = 4 then (some (wrap64 (a1 + a2), true)) else (if a0 = 5 then (some (wrap64 (a1 - a2), true)) else (if a0 = 6 then (some (wrap64 (a1 * a2), true)) else (if a0 = 7 then (if a2 = 0 then (some (0, false)) else (if a2 = (-1) then (some (wrap64 (-a1), true)) else (some (wrap64 (Int.tdiv a1 a2), true)))) else (if a0 = 8 then (if a2 = 0 then (some (0, false)) else (if a2 = (-1) then (some (0, true)) else (some (Int.tmod a1 a2, true)))) else (if a0 = 9 then (some (Go.bits .and .i64 a1 a2, true)) else (if a0 = 10 then (some (Go.bits .xor .i64 a1 a2, true)) else (if a0 = 11 then (if a1 < a2 then (some (1, true)) else (some (0, true))) else (if a0 = 12 then (if a1 = a2 then (some (1, true)) else (some (0, true))) else (some (0, false))))))))))
set_option maxHeartbeats 8000000 in
set_option maxRecDepth 100000 in
theorem avermentref07_Arith.calls (a0 : Int) (a1 : Int) (a2 : Int) (r1 : Int) (r2 : Bool) (w : World) (h : avermentref07_Arith.f a0 a1 a2 = some (r1, r2)) :
    Calls Tryz.prog 89 #[.int .i64 a0, .int .i64 a1, .int .i64 a2] w fun e w' => e = .returned (.tuple #[.int .i64 r1, .bool r2]) ∧ Drawn0 w w' := by
  have H : (if a0 = 4 then (some (wrap64 (a1 + a2), true)) else (if a0 = 5 then (some (wrap64 (a1 - a2), true)) else (if a0 = 6 then (some (wrap64 (a1 * a2), true)) else (if a0 = 7 then (if a2 = 0 then (some (0, false)) else (if a2 = (-1) then (some (wrap64 (-a1), true)) else (some (wrap64 (Int.tdiv a1 a2), true)))) else (if a0 = 8 then (if a2 = 0 then (some (0, false)) else (if a2 = (-1) then (some (0, true)) else (some (Int.tmod a1 a2, true)))) else (if a0 = 9 then (some (Go.bits .and .i64 a1 a2, true)) else (if a0 = 10 then (some (Go.bits .xor .i64 a1 a2, true)) else (if a0 = 11 then (if a1 < a2 then (some (1, true)) else (some (0, true))) else (if a0 = 12 then (if a1 = a2 then (some (1, true)) else (some (0, true))) else (some (0, false))))))))))) = some (r1, r2) := h
  clear h
  by_cases c4 : a0 = 4
  · rw [if_pos c4] at H
    have c4b0 : (a0 == 4) = true := beq_iff_eq.mpr c4
    have c4b1 : (a0 != 4) = false := bne_eq_false_iff_eq.mpr c4
    clear c4
    simp only [Option.some.injEq, Prod.mk.injEq] at H
    obtain ⟨rfl, rfl⟩ := H
    go_enter Tryz.func89, Tryz.ntmps89
    go_wp2
    go_ret2
    exact ⟨by first | rfl | (simp; done) | (simp [*]; done), by repeat (first | exact Drawn0.refl _ | apply Drawn0.step)⟩
  · rw [if_neg c4] at H
    have c4b0 : (a0 == 4) = false := beq_eq_false_iff_ne.mpr c4
    have c4b1 : (a0 != 4) = true := bne_iff_ne.mpr c4
    by_cases c5 : a0 = 5
    · rw [if_pos c5] at H
      have c5b0 : (a0 == 5) = true := beq_iff_eq.mpr c5
      have c5b1 : (a0 != 5) = false := bne_eq_false_iff_eq.mpr c5
      clear c5
      simp only [Option.some.injEq, Prod.mk.injEq] at H
      obtain ⟨rfl, rfl⟩ := H
      go_enter Tryz.func89, Tryz.ntmps89
      go_wp2
      go_ret2
      exact ⟨by first | rfl | (simp; done) | (simp [*]; done), by repeat (first | exact Drawn0.refl _ | apply Drawn0.step)⟩
    · rw [if_neg c5] at H
      have c5b0 : (a0 == 5) = false := beq_eq_false_iff_ne.mpr c5
      have c5b1 : (a0 != 5) = true := bne_iff_ne.mpr c5
      by_cases c6 : a0 = 6
      · rw [if_pos c6] at H
        have c6b0 : (a0 == 6) = true := beq_iff_eq.mpr c6
        have c6b1 : (a0 != 6) = false := bne_eq_false_iff_eq.mpr c6
        clear c6
        simp only [Option.some.injEq, Prod.mk.injEq] at H
        obtain ⟨rfl, rfl⟩ := H
        go_enter Tryz.func89, Tryz.ntmps89
        go_wp2
        go_ret2
        exact ⟨by first | rfl | (simp; done) | (simp [*]; done), by repeat (first | exact Drawn0.refl _ | apply Drawn0.step)⟩
      · rw [if_neg c6] at H
        have c6b0 : (a0 == 6) = false := beq_eq_false_iff_ne.mpr c6
        have c6b1 : (a0 != 6) = true := bne_iff_ne.mpr c6
        by_cases c7 : a0 = 7
        · rw [if_pos c7] at H
          have c7b0 : (a0 == 7) = true := beq_iff_eq.mpr c7
          have c7b1 : (a0 != 7) = false := bne_eq_false_iff_eq.mpr c7
          clear c7
          by_cases c8 : a2 = 0
          · rw [if_pos c8] at H
            have c8b0 : (a2 == 0) = true := beq_iff_eq.mpr c8
            have c8b1 : (a2 != 0) = false := bne_eq_false_iff_eq.mpr c8
            clear c8
            simp only [Option.some.injEq, Prod.mk.injEq] at H
            obtain ⟨rfl, rfl⟩ := H
            go_enter Tryz.func89, Tryz.ntmps89
            go_wp2
            go_ret2
            exact ⟨by first | rfl | (simp; done) | (simp [*]; done), by repeat (first | exact Drawn0.refl _ | apply Drawn0.step)⟩
          · rw [if_neg c8] at H
            have c8b0 : (a2 == 0) = false := beq_eq_false_iff_ne.mpr c8
            have c8b1 : (a2 != 0) = true := bne_iff_ne.mpr c8
            by_cases c9 : a2 = (-1)
            · rw [if_pos c9] at H
              have c9b0 : (a2 == (-1)) = true := beq_iff_eq.mpr c9
              have c9b1 : (a2 != (-1)) = false := bne_eq_false_iff_eq.mpr c9
              clear c9
              simp only [Option.some.injEq, Prod.mk.injEq] at H
              obtain ⟨rfl, rfl⟩ := H
              go_enter Tryz.func89, Tryz.ntmps89
              go_wp2
              go_ret2
              exact ⟨by first | rfl | (simp; done) | (simp [*]; done), by repeat (first | exact Drawn0.refl _ | apply Drawn0.step)⟩
            · rw [if_neg c9] at H
              have c9b0 : (a2 == (-1)) = false := beq_eq_false_iff_ne.mpr c9
              have c9b1 : (a2 != (-1)) = true := bne_iff_ne.mpr c9
              simp only [Option.some.injEq, Prod.mk.injEq] at H
              obtain ⟨rfl, rfl⟩ := H
              go_enter Tryz.func89, Tryz.ntmps89
              go_wp2
              go_ret2
              exact ⟨by first | rfl | (simp; done) | (simp [*]; done), by repeat (first | exact Drawn0.refl _ | apply Drawn0.step)⟩
        · rw [if_neg c7] at H
          have c7b0 : (a0 == 7) = false := beq_eq_false_iff_ne.mpr c7
          have c7b1 : (a0 != 7) = true := bne_iff_ne.mpr c7
          by_cases c10 : a0 = 8
          · rw [if_pos c10] at H
            have c10b0 : (a0 == 8) = true := beq_iff_eq.mpr c10
            have c10b1 : (a0 != 8) = false := bne_eq_false_iff_eq.mpr c10
            clear c10
            by_cases c11 : a2 = 0
            · rw [if_pos c11] at H
              have c11b0 : (a2 == 0) = true := beq_iff_eq.mpr c11
              have c11b1 : (a2 != 0) = false := bne_eq_false_iff_eq.mpr c11
              clear c11
              simp only [Option.some.injEq, Prod.mk.injEq] at H
              obtain ⟨rfl, rfl⟩ := H
              go_enter Tryz.func89, Tryz.ntmps89
              go_wp2
              go_ret2
              exact ⟨by first | rfl | (simp; done) | (simp [*]; done), by repeat (first | exact Drawn0.refl _ | apply Drawn0.step)⟩
            · rw [if_neg c11] at H
              have c11b0 : (a2 == 0) = false := beq_eq_false_iff_ne.mpr c11
              have c11b1 : (a2 != 0) = true := bne_iff_ne.mpr c11
              by_cases c12 : a2 = (-1)
              · rw [if_pos c12] at H
                have c12b0 : (a2 == (-1)) = true := beq_iff_eq.mpr c12
                have c12b1 : (a2 != (-1)) = false := bne_eq_false_iff_eq.mpr c12
                clear c12
                simp only [Option.some.injEq, Prod.mk.injEq] at H
                obtain ⟨rfl, rfl⟩ := H
                go_enter Tryz.func89, Tryz.ntmps89
                go_wp2
                go_ret2
                exact ⟨by first | rfl | (simp; done) | (simp [*]; done), by repeat (first | exact Drawn0.refl _ | apply Drawn0.step)⟩
              · rw [if_neg c12] at H
                have c12b0 : (a2 == (-1)) = false := beq_eq_false_iff_ne.mpr c12
                have c12b1 : (a2 != (-1)) = true := bne_iff_ne.mpr c12
                simp only [Option.some.injEq, Prod.mk.injEq] at H
                obtain ⟨rfl, rfl⟩ := H
                go_enter Tryz.func89, Tryz.ntmps89
                go_wp2
                go_ret2
                exact ⟨by first | rfl | (simp; done) | (simp [*]; done), by repeat (first | exact Drawn0.refl _ | apply Drawn0.step)⟩
          · rw [if_neg c10] at H
            have c10b0 : (a0 == 8) = false := beq_eq_false_iff_ne.mpr c10
            have c10b1 : (a0 != 8) = true := bne_iff_ne.mpr c10
            by_cases c13 : a0 = 9
            · rw [if_pos c13] at H
              have c13b0 : (a0 == 9) = true := beq_iff_eq.mpr c13
              have c13b1 : (a0 != 9) = false := bne_eq_false_iff_eq.mpr c13
              clear c13
              simp only [Option.some.injEq, Prod.mk.injEq] at H
              obtain ⟨rfl, rfl⟩ := H
              go_enter Tryz.func89, Tryz.ntmps89
              go_wp2
              go_ret2
              exact ⟨by first | rfl | (simp; done) | (simp [*]; done), by repeat (first | exact Drawn0.refl _ | apply Drawn0.step)⟩
            · rw [if_neg c13] at H
              have c13b0 : (a0 == 9) = false := beq_eq_false_iff_ne.mpr c13
              have c13b1 : (a0 != 9) = true := bne_iff_ne.mpr c13
              by_cases c14 : a0 = 10
              · rw [if_pos c14] at H
                have c14b0 : (a0 == 10) = true := beq_iff_eq.mpr c14
                have c14b1 : (a0 != 10) = false := bne_eq_false_iff_eq.mpr c14
                clear c14
                simp only [Option.some.injEq, Prod.mk.injEq] at H
                obtain ⟨rfl, rfl⟩ := H
                go_enter Tryz.func89, Tryz.ntmps89
                go_wp2
                go_ret2
                exact ⟨by first | rfl | (simp; done) | (simp [*]; done), by repeat (first | exact Drawn0.refl _ | apply Drawn0.step)⟩
              · rw [if_neg c14] at H
                have c14b0 : (a0 == 10) = false := beq_eq_false_iff_ne.mpr c14
                have c14b1 : (a0 != 10) = true := bne_iff_ne.mpr c14
                by_cases c15 : a0 = 11
                · rw [if_pos c15] at H
                  have c15b0 : (a0 == 11) = true := beq_iff_eq.mpr c15
                  have c15b1 : (a0 != 11) = false := bne_eq_false_iff_eq.mpr c15
                  clear c15
                  by_cases c16 : a1 < a2
                  · rw [if_pos c16] at H
                    have c16b0 : decide (a1 < a2) = true := decide_eq_true c16
                    clear c16
                    simp only [Option.some.injEq, Prod.mk.injEq] at H
                    obtain ⟨rfl, rfl⟩ := H
                    go_enter Tryz.func89, Tryz.ntmps89
                    go_wp2
                    go_ret2
                    exact ⟨by first | rfl | (simp; done) | (simp [*]; done), by repeat (first | exact Drawn0.refl _ | apply Drawn0.step)⟩
                  · rw [if_neg c16] at H
                    have c16b0 : decide (a1 < a2) = false := decide_eq_false c16
                    clear c16
                    simp only [Option.some.injEq, Prod.mk.injEq] at H
                    obtain ⟨rfl, rfl⟩ := H
                    go_enter Tryz.func89, Tryz.ntmps89
                    go_wp2
                    go_ret2
                    exact ⟨by first | rfl | (simp; done) | (simp [*]; done), by repeat (first | exact Drawn0.refl _ | apply Drawn0.step)⟩
                · rw [if_neg c15] at H
                  have c15b0 : (a0 == 11) = false := beq_eq_false_iff_ne.mpr c15
                  have c15b1 : (a0 != 11) = true := bne_iff_ne.mpr c15
                  by_cases c17 : a0 = 12
                  · rw [if_pos c17] at H
                    have c17b0 : (a0 == 12) = true := beq_iff_eq.mpr c17
                    have c17b1 : (a0 != 12) = false := bne_eq_false_iff_eq.mpr c17
                    clear c17
                    by_cases c18 : a1 = a2
                    · rw [if_pos c18] at H
                      have c18b0 : (a1 == a2) = true := beq_iff_eq.mpr c18
                      have c18b1 : (a1 != a2) = false := bne_eq_false_iff_eq.mpr c18
                      clear c18
                      simp only [Option.some.injEq, Prod.mk.injEq] at H
                      obtain ⟨rfl, rfl⟩ := H
                      go_enter Tryz.func89, Tryz.ntmps89
                      go_wp2
                      go_ret2
                      exact ⟨by first | rfl | (simp; done) | (simp [*]; done), by repeat (first | exact Drawn0.refl _ | apply Drawn0.step)⟩
                    · rw [if_neg c18] at H
                      have c18b0 : (a1 == a2) = false := beq_eq_false_iff_ne.mpr c18
                      have c18b1 : (a1 != a2) = true := bne_iff_ne.mpr c18
                      simp only [Option.some.injEq, Prod.mk.injEq] at H
                      obtain ⟨rfl, rfl⟩ := H
                      go_enter Tryz.func89, Tryz.ntmps89
                      go_wp2
                      go_ret2
                      exact ⟨by first | rfl | (simp; done) | (simp [*]; done), by repeat (first | exact Drawn0.refl _ | apply Drawn0.step)⟩
                  · rw [if_neg c17] at H
                    have c17b0 : (a0 == 12) = false := beq_eq_false_iff_ne.mpr c17
                    have c17b1 : (a0 != 12) = true := bne_iff_ne.mpr c17
                    simp only [Option.some.injEq, Prod.mk.injEq] at H
                    obtain ⟨rfl, rfl⟩ := H
                    go_enter Tryz.func89, Tryz.ntmps89
                    go_wp2
                    go_ret2
                    exact ⟨by first | rfl | (simp; done) | (simp [*]; done), by repeat (first | exact Drawn0.refl _ | apply Drawn0.step)⟩

/-! ### avermentref10_Ones: function 111 -/
def avermentref10_Ones.l0 : Nat → Int → Int → Option (Int)
  | 0, _, _ => none
  | k + 1, x0, x3 => if x3 < x0 then (avermentref10_Ones.l0 k x0 (wrap64 ((wrap64 (2 * x3)) + 1))) else (some x3)
def avermentref10_Ones.f (k : Nat) (a0 : Int) : Option (Int) := avermentref10_Ones.l0 k a0 0
theorem avermentref10_Ones.mono_l : ∀ k, (∀ y0 y1, LeO (avermentref10_Ones.l0 k y0 y1) (avermentref10_Ones.l0 (k + 1) y0 y1))
  | 0 => fun _ _ r h => by simp [avermentref10_Ones.l0] at h
  | k + 1 => by
    have ih0 := avermentref10_Ones.mono_l k
    · intro y0 y1
      unfold avermentref10_Ones.l0
      repeat' first
      | (with_reducible exact ih0 _ _)
      | (with_reducible exact LeO.refl _)
      | (with_reducible exact LeO.none _)
      | (with_reducible refine LeO.ite ?_ ?_)
      | (with_reducible refine LeO.bind ?_ (fun _ => ?_))
      | exact ih0 _ _
      | exact LeO.none _
      | refine LeO.ite ?_ ?_
      | refine LeO.bind ?_ (fun _ => ?_)
theorem avermentref10_Ones.mono : ∀ a0 k, LeO (avermentref10_Ones.f k a0) (avermentref10_Ones.f (k + 1) a0) := by
  intro a0 k
  have ih0 := avermentref10_Ones.mono_l k
  unfold avermentref10_Ones.f
  repeat' first
      | (with_reducible exact ih0 _ _)
      | (with_reducible exact LeO.refl _)
      | (with_reducible exact LeO.none _)
      | (with_reducible refine LeO.ite ?_ ?_)
      | (with_reducible refine LeO.bind ?_ (fun _ => ?_))
      | exact ih0 _ _
      | exact LeO.none _
      | refine LeO.ite ?_ ?_
      | refine LeO.bind ?_ (fun _ => ?_)
set_option maxHeartbeats 8000000 in
set_option maxRecDepth 100000 in
theorem avermentref10_Ones.calls (k : Nat) (a0 : Int) (r : Int) (w : World) (h : avermentref10_Ones.f k a0 = some r) :
    Calls Tryz.prog 111 #[.int .i64 a0] w fun e w' => e = .returned (.int .i64 r) ∧ Drawn0 w w' := by
  have H : (avermentref10_Ones.l0 k a0 0) = some r := h
  clear h
  have H' := Aside0.mk H
  clear H
  go_enter Tryz.func111, Tryz.ntmps111
  go_wp2
  go_loopg [3] k (fun kq v3 w' => ∃ (x3_1 : Int), v3 = .int .i64 x3_1 ∧ Aside0 (avermentref10_Ones.l0 kq a0 x3_1 = some r) ∧ Aside0 (kq ≤ k) ∧ Drawn0 w w')
  case atStart => exact ⟨(0), (by first | rfl | (simp; done) | (simp [*]; done)), H', ⟨Nat.le_refl _⟩, by repeat (first | exact Drawn0.refl _ | apply Drawn0.step)⟩
  case round =>
    clear H'
    try clear c1
    obtain ⟨x3_1, rfl, HA, HK1, ⟨m1, rfl⟩⟩ := hrel
    cases gk with
    | zero => exact absurd HA.out (by simp [avermentref10_Ones.l0])
    | succ k1 =>
      have H := HA.out
      clear HA
      simp only [avermentref10_Ones.l0] at H
      by_cases c2 : x3_1 < a0
      · rw [if_pos c2] at H
        have c2b0 : decide (x3_1 < a0) = true := decide_eq_true c2
        clear c2
        have H' := Aside0.mk H
        clear H
        go_wp2
        go_roundg k1
        case measure => have := HK1.out; omega
        case rel => exact ⟨(wrap64 ((wrap64 (2 * x3_1)) + 1)), (by first | rfl | (simp; done) | (simp [*]; done)), H', ⟨by have := HK1.out; omega⟩, by repeat (first | exact Drawn0.refl _ | apply Drawn0.step)⟩
      · rw [if_neg c2] at H
        have c2b0 : decide (x3_1 < a0) = false := decide_eq_false c2
        clear c2
        obtain rfl := Option.some.inj H
        go_wp2
        go_ret
        exact ⟨by first | rfl | (simp; done) | (simp [*]; done), by repeat (first | exact Drawn0.refl _ | apply Drawn0.step)⟩

/-! ### avermentref08_Two: function 41 -/
mutual
def avermentref08_Two.l0 : Nat → Int → Int → Int → Int → List Int → Int → Option (Int)
  | 0, _, _, _, _, _, _ => none
  | k + 1, x0, x1, x2, x7, x8, x9 => if x9 < (x8.length : Int) then (avermentref08_Two.l1 k x0 x1 x2 x7 x8 x9 0) else (some x7)
def avermentref08_Two.l1 : Nat → Int → Int → Int → Int → List Int → Int → Int → Option (Int)
  | 0, _, _, _, _, _, _, _ => none
  | k + 1, x0, x1, x2, x7, x8, x9, x10 => if x10 < (x8.length : Int) then (if 0 ≤ x9 then (if x9 < (x8.length : Int) then (if 0 ≤ x10 then ((avermentref07_Arith.f x0 (rd x8 x9) (rd x8 x10)).bind fun bt602 => (if bt602.2 = true then ((avermentref08_Has.f x1 (rd x8 x9)).bind fun t605 => (if t605 = true then ((avermentref08_Has.f x2 (rd x8 x10)).bind fun t607 => (if t607 = true then ((avermentref08_Of.f bt602.1).bind fun t608 => (avermentref08_Two.l1 k x0 x1 x2 (Go.bits .or .i64 x7 t608) x8 x9 (wrap64 (x10 + 1)))) else (avermentref08_Two.l1 k x0 x1 x2 x7 x8 x9 (wrap64 (x10 + 1))))) else (avermentref08_Two.l1 k x0 x1 x2 x7 x8 x9 (wrap64 (x10 + 1))))) else (avermentref08_Two.l1 k x0 x1 x2 x7 x8 x9 (wrap64 (x10 + 1))))) else (none)) else (none)) else (none)) else (avermentref08_Two.l0 k x0 x1 x2 x7 x8 (wrap64 (x9 + 1)))
end
def avermentref08_Two.f (k : Nat) (a0 : Int) (a1 : Int) (a2 : Int) : Option (Int) := (avermentref08_Nums.f).bind fun t597 => (avermentref08_Two.l0 k a0 a1 a2 0 t597 0)
theorem avermentref08_Two.mono_l : ∀ k, (∀ y0 y1 y2 y3 y4 y5, LeO (avermentref08_Two.l0 k y0 y1 y2 y3 y4 y5) (avermentref08_Two.l0 (k + 1) y0 y1 y2 y3 y4 y5)) ∧ (∀ y0 y1 y2 y3 y4 y5 y6, LeO (avermentref08_Two.l1 k y0 y1 y2 y3 y4 y5 y6) (avermentref08_Two.l1 (k + 1) y0 y1 y2 y3 y4 y5 y6))
  | 0 => ⟨fun _ _ _ _ _ _ r h => by simp [avermentref08_Two.l0] at h, fun _ _ _ _ _ _ _ r h => by simp [avermentref08_Two.l1] at h⟩
  | k + 1 => by
    obtain ⟨ih0, ih1⟩ := avermentref08_Two.mono_l k
    refine ⟨?_, ?_⟩
    · intro y0 y1 y2 y3 y4 y5
      unfold avermentref08_Two.l0
      repeat' first
      | (with_reducible exact ih0 _ _ _ _ _ _)
      | (with_reducible exact ih1 _ _ _ _ _ _ _)
      | (with_reducible exact LeO.refl _)
      | (with_reducible exact LeO.none _)
      | (with_reducible refine LeO.ite ?_ ?_)
      | (with_reducible refine LeO.bind ?_ (fun _ => ?_))
      | exact ih0 _ _ _ _ _ _
      | exact ih1 _ _ _ _ _ _ _
      | exact LeO.none _
      | refine LeO.ite ?_ ?_
      | refine LeO.bind ?_ (fun _ => ?_)
    · intro y0 y1 y2 y3 y4 y5 y6
      unfold avermentref08_Two.l1
      repeat' first
      | (with_reducible exact ih0 _ _ _ _ _ _)
      | (with_reducible exact ih1 _ _ _ _ _ _ _)
      | (with_reducible exact LeO.refl _)
      | (with_reducible exact LeO.none _)
      | (with_reducible refine LeO.ite ?_ ?_)
      | (with_reducible refine LeO.bind ?_ (fun _ => ?_))
      | exact ih0 _ _ _ _ _ _
      | exact ih1 _ _ _ _ _ _ _
      | exact LeO.none _
      | refine LeO.ite ?_ ?_
      | refine LeO.bind ?_ (fun _ => ?_)
theorem avermentref08_Two.mono : ∀ a0 a1 a2 k, LeO (avermentref08_Two.f k a0 a1 a2) (avermentref08_Two.f (k + 1) a0 a1 a2) := by
  intro a0 a1 a2 k
  obtain ⟨ih0, ih1⟩ := avermentref08_Two.mono_l k
  unfold avermentref08_Two.f
  repeat' first
      | (with_reducible exact ih0 _ _ _ _ _ _)
      | (with_reducible exact ih1 _ _ _ _ _ _ _)
      | (with_reducible exact LeO.refl _)
      | (with_reducible exact LeO.none _)
      | (with_reducible refine LeO.ite ?_ ?_)
      | (with_reducible refine LeO.bind ?_ (fun _ => ?_))
      | exact ih0 _ _ _ _ _ _
      | exact ih1 _ _ _ _ _ _ _
      | exact LeO.none _
      | refine LeO.ite ?_ ?_
      | refine LeO.bind ?_ (fun _ => ?_)
set_option maxHeartbeats 8000000 in
set_option maxRecDepth 100000 in
theorem avermentref08_Two.calls (k : Nat) (a0 : Int) (a1 : Int) (a2 : Int) (r : Int) (w : World) (h : avermentref08_Two.f k a0 a1 a2 = some r) :
    Calls Tryz.prog 41 #[.int .i64 a0, .int .i64 a1, .int .i64 a2] w fun e w' => e = .returned (.int .i64 r) ∧ Below w.heap.size w w' := by
  have HB := Aside0.mk (Below.refl w.heap.size w)
  have H : ((avermentref08_Nums.f).bind fun t597 => (avermentref08_Two.l0 k a0 a1 a2 0 t597 0)) = some r := h
  clear h
  replace H := Option.bind_eq_some_iff.mp H
  obtain ⟨t597, A40, H⟩ := H
  replace H : (avermentref08_Two.l0 k a0 a1 a2 0 t597 0) = some r := H
  have A4 := Aside0.mk A40
  clear A40
  have H' := Aside0.mk H
  clear H
  go_enter Tryz.func41, Tryz.ntmps41
  go_wp2_with (first | (go_at_call 56; (with_reducible refine (avermentref08_Nums.calls  t597 _ A4.out).mono ?_); rintro e w5 ⟨v598, rfl, ho0, hb⟩; have n0_ := Aside0.mk (Kd.R_lower ho0 (below_size (by repeat (first | (with_reducible first | exact HB.out | apply below_alloc | apply pw_below_drewN | apply below_drew1) | exact HB.out)))); have n1_ := Aside0.mk (below_step (by repeat (first | (with_reducible first | exact HB.out | apply below_alloc | apply pw_below_drewN | apply below_drew1) | exact HB.out)) hb); clear HB; have HO599 := n0_; have HB := n1_; clear n0_ n1_; (try clear hb); (try clear hb2); (try clear hk); (try clear hi); (try clear ho0)))
  repeat (go_quiet (first | (go_at_call 56; (with_reducible refine (avermentref08_Nums.calls  t597 _ A4.out).mono ?_); rintro e w5 ⟨v598, rfl, ho0, hb⟩; have n0_ := Aside0.mk (Kd.R_lower ho0 (below_size (by repeat (first | (with_reducible first | exact HB.out | apply below_alloc | apply pw_below_drewN | apply below_drew1) | exact HB.out)))); have n1_ := Aside0.mk (below_step (by repeat (first | (with_reducible first | exact HB.out | apply below_alloc | apply pw_below_drewN | apply below_drew1) | exact HB.out)) hb); clear HB; have HO599 := n0_; have HB := n1_; clear n0_ n1_; (try clear hb); (try clear hb2); (try clear hk); (try clear hi); (try clear ho0))); try go_wp2_with (first | (go_at_call 56; (with_reducible refine (avermentref08_Nums.calls  t597 _ A4.out).mono ?_); rintro e w5 ⟨v598, rfl, ho0, hb⟩; have n0_ := Aside0.mk (Kd.R_lower ho0 (below_size (by repeat (first | (with_reducible first | exact HB.out | apply below_alloc | apply pw_below_drewN | apply below_drew1) | exact HB.out)))); have n1_ := Aside0.mk (below_step (by repeat (first | (with_reducible first | exact HB.out | apply below_alloc | apply pw_below_drewN | apply below_drew1) | exact HB.out)) hb); clear HB; have HO599 := n0_; have HB := n1_; clear n0_ n1_; (try clear hb); (try clear hb2); (try clear hk); (try clear hi); (try clear ho0))))
  go_loopg [7, 9] k (fun kq v7 v9 w' => ∃ (x7_1 : Int) (x9_1 : Int), v7 = .int .i64 x7_1 ∧ v9 = .int .i64 x9_1 ∧ Aside0 (avermentref08_Two.l0 kq a0 a1 a2 x7_1 t597 x9_1 = some r) ∧ Aside0 (kq ≤ k) ∧ Aside0 (Kd.R (Kd.int .i64) 2 w' w.heap.size (fun _ => True) v598 t597) ∧ Aside0 (Below w.heap.size w w'))
  case atStart => exact ⟨(0), (0), (by first | rfl | (simp; done) | (simp [*]; done)), (by first | rfl | (simp; done) | (simp [*]; done)), H', ⟨Nat.le_refl _⟩, ⟨by (with_reducible repeat (first | apply Kd.R_alloc | apply Kd.R_drewN | apply Kd.R_drew)); exact HO599.out⟩, ⟨by repeat (first | (with_reducible first | exact HB.out | apply below_alloc | apply pw_below_drewN | apply below_drew1) | exact HB.out)⟩⟩
  case round =>
    clear H'
    try clear p2
    try clear c4
    obtain ⟨x7_1, x9_1, rfl, rfl, HA, HK1, HO_8, HB⟩ := hrel
    cases gk with
    | zero => exact absurd HA.out (by simp [avermentref08_Two.l0])
    | succ k1 =>
      have H := HA.out
      clear HA
      simp only [avermentref08_Two.l0] at H
      by_cases c6 : x9_1 < (t597.length : Int)
      · rw [if_pos c6] at H
        have c6b0 : decide (x9_1 < (t597.length : Int)) = true := decide_eq_true c6
        clear c6
        have H' := Aside0.mk H
        clear H
        obtain ⟨Ao7, co7, eo7⟩ := Kd.R_slice HO_8.out
        subst eo7
        go_wp2
        repeat (go_quiet (fail); try go_wp2)
        go_loopg [7, 10] k1 (fun kq v7 v10 w' => ∃ (x7_2 : Int) (x10_2 : Int), v7 = .int .i64 x7_2 ∧ v10 = .int .i64 x10_2 ∧ Aside0 (avermentref08_Two.l1 kq a0 a1 a2 x7_2 t597 x9_1 x10_2 = some r) ∧ Aside0 (kq ≤ k1) ∧ Aside0 (Kd.R (Kd.int .i64) 2 w' w.heap.size (fun _ => True) (.slice Ao7 t597.length co7) t597) ∧ Aside0 (Below w.heap.size w w'))
        case atStart => exact ⟨(x7_1), (0), (by first | rfl | (simp; done) | (simp [*]; done)), (by first | rfl | (simp; done) | (simp [*]; done)), H', ⟨Nat.le_refl _⟩, ⟨by (with_reducible repeat (first | apply Kd.R_alloc | apply Kd.R_drewN | apply Kd.R_drew)); exact HO_8.out⟩, ⟨by repeat (first | (with_reducible first | exact HB.out | apply below_alloc | apply pw_below_drewN | apply below_drew1) | exact HB.out)⟩⟩
        case round =>
          clear H'
          try clear p2
          try clear c4
          try clear c6
          try clear c6b0
          try clear p2
          obtain ⟨x7_2, x10_2, rfl, rfl, HA, HK2, HO_8, HB⟩ := hrel
          cases gk with
          | zero => exact absurd HA.out (by simp [avermentref08_Two.l1])
          | succ k2 =>
            have H := HA.out
            clear HA
            simp only [avermentref08_Two.l1] at H
            by_cases c8 : x10_2 < (t597.length : Int)
            · rw [if_pos c8] at H
              have c8b0 : decide (x10_2 < (t597.length : Int)) = true := decide_eq_true c8
              clear c8
              by_cases c9 : 0 ≤ x9_1
              · rw [if_pos c9] at H
                have c9b0 : decide (0 ≤ x9_1) = true := decide_eq_true c9
                clear c9
                by_cases c10 : x9_1 < (t597.length : Int)
                · rw [if_pos c10] at H
                  have c10b0 : decide (x9_1 < (t597.length : Int)) = true := decide_eq_true c10
                  clear c10
                  by_cases c11 : 0 ≤ x10_2
                  · rw [if_pos c11] at H
                    have c11b0 : decide (0 ≤ x10_2) = true := decide_eq_true c11
                    clear c11
                    replace H := Option.bind_eq_some_iff.mp H
                    obtain ⟨⟨t602, t603⟩, A120, H⟩ := H
                    replace H : (if t603 = true then ((avermentref08_Has.f a1 (rd t597 x9_1)).bind fun t605 => (if t605 = true then ((avermentref08_Has.f a2 (rd t597 x10_2)).bind fun t607 => (if t607 = true then ((avermentref08_Of.f t602).bind fun t608 => (avermentref08_Two.l1 k2 a0 a1 a2 (Go.bits .or .i64 x7_2 t608) t597 x9_1 (wrap64 (x10_2 + 1)))) else (avermentref08_Two.l1 k2 a0 a1 a2 x7_2 t597 x9_1 (wrap64 (x10_2 + 1))))) else (avermentref08_Two.l1 k2 a0 a1 a2 x7_2 t597 x9_1 (wrap64 (x10_2 + 1))))) else (avermentref08_Two.l1 k2 a0 a1 a2 x7_2 t597 x9_1 (wrap64 (x10_2 + 1)))) = some r := H
                    have A12 := Aside0.mk A120
                    clear A120
                    by_cases c13 : t603 = true
                    · subst c13
                      have H1 : ((avermentref08_Has.f a1 (rd t597 x9_1)).bind fun t605 => (if t605 = true then ((avermentref08_Has.f a2 (rd t597 x10_2)).bind fun t607 => (if t607 = true then ((avermentref08_Of.f t602).bind fun t608 => (avermentref08_Two.l1 k2 a0 a1 a2 (Go.bits .or .i64 x7_2 t608) t597 x9_1 (wrap64 (x10_2 + 1)))) else (avermentref08_Two.l1 k2 a0 a1 a2 x7_2 t597 x9_1 (wrap64 (x10_2 + 1))))) else (avermentref08_Two.l1 k2 a0 a1 a2 x7_2 t597 x9_1 (wrap64 (x10_2 + 1))))) = some r := by rw [if_pos rfl] at H; exact H
                      clear H
                      have H := H1
                      clear H1
                      replace H := Option.bind_eq_some_iff.mp H
                      obtain ⟨t605, A140, H⟩ := H
                      replace H : (if t605 = true then ((avermentref08_Has.f a2 (rd t597 x10_2)).bind fun t607 => (if t607 = true then ((avermentref08_Of.f t602).bind fun t608 => (avermentref08_Two.l1 k2 a0 a1 a2 (Go.bits .or .i64 x7_2 t608) t597 x9_1 (wrap64 (x10_2 + 1)))) else (avermentref08_Two.l1 k2 a0 a1 a2 x7_2 t597 x9_1 (wrap64 (x10_2 + 1))))) else (avermentref08_Two.l1 k2 a0 a1 a2 x7_2 t597 x9_1 (wrap64 (x10_2 + 1)))) = some r := H
                      have A14 := Aside0.mk A140
                      clear A140
                      by_cases c15 : t605 = true
                      · subst c15
                        have H1 : ((avermentref08_Has.f a2 (rd t597 x10_2)).bind fun t607 => (if t607 = true then ((avermentref08_Of.f t602).bind fun t608 => (avermentref08_Two.l1 k2 a0 a1 a2 (Go.bits .or .i64 x7_2 t608) t597 x9_1 (wrap64 (x10_2 + 1)))) else (avermentref08_Two.l1 k2 a0 a1 a2 x7_2 t597 x9_1 (wrap64 (x10_2 + 1))))) = some r := by rw [if_pos rfl] at H; exact H
                        clear H
                        have H := H1
                        clear H1
                        replace H := Option.bind_eq_some_iff.mp H
                        obtain ⟨t607, A160, H⟩ := H
                        replace H : (if t607 = true then ((avermentref08_Of.f t602).bind fun t608 => (avermentref08_Two.l1 k2 a0 a1 a2 (Go.bits .or .i64 x7_2 t608) t597 x9_1 (wrap64 (x10_2 + 1)))) else (avermentref08_Two.l1 k2 a0 a1 a2 x7_2 t597 x9_1 (wrap64 (x10_2 + 1)))) = some r := H
                        have A16 := Aside0.mk A160
                        clear A160
                        by_cases c17 : t607 = true
                        · subst c17
                          have H1 : ((avermentref08_Of.f t602).bind fun t608 => (avermentref08_Two.l1 k2 a0 a1 a2 (Go.bits .or .i64 x7_2 t608) t597 x9_1 (wrap64 (x10_2 + 1)))) = some r := by rw [if_pos rfl] at H; exact H
                          clear H
                          have H := H1
                          clear H1
                          replace H := Option.bind_eq_some_iff.mp H
                          obtain ⟨t608, A180, H⟩ := H
                          replace H : (avermentref08_Two.l1 k2 a0 a1 a2 (Go.bits .or .i64 x7_2 t608) t597 x9_1 (wrap64 (x10_2 + 1))) = some r := H
                          have A18 := Aside0.mk A180
                          clear A180
                          have H' := Aside0.mk H
                          clear H
                          have p600 : 0 ≤ (x9_1 : Int) := of_decide_eq_true (by first | (with_reducible assumption) | assumption)
                          have q600 : x9_1 < (t597.length : Int) := of_decide_eq_true (by first | (with_reducible assumption) | assumption)
                          obtain ⟨ad600, e600, hx600_0⟩ := Kd.at_int (Kd.R_reads' HO_8.out).2.2 x9_1 p600 q600
                          cases e600
                          replace p600 := eq_true p600
                          replace q600 := eq_true q600
                          have p601 : 0 ≤ (x10_2 : Int) := of_decide_eq_true (by first | (with_reducible assumption) | assumption)
                          have q601 : x10_2 < (t597.length : Int) := of_decide_eq_true (by first | (with_reducible assumption) | assumption)
                          obtain ⟨ad601, e601, hx601_0⟩ := Kd.at_int (Kd.R_reads' HO_8.out).2.2 x10_2 p601 q601
                          obtain rfl : ad600 = ad601 := (by injection e601)
                          replace p601 := eq_true p601
                          replace q601 := eq_true q601
                          go_wp2_with (first | (go_at_call 89; (with_reducible refine (avermentref07_Arith.calls a0 (rd t597 x9_1) (rd t597 x10_2) t602 true _ A12.out).mono ?_); rintro e w' ⟨rfl, ⟨nd, rfl⟩⟩; (try first | exact ⟨rfl, _, World.drewN_drewN _ _ _⟩ | exact ⟨rfl, _, Eq.trans (World.drewN_drewN _ _ _) (congrArg (World.drewN _) (Nat.add_assoc _ _ _))⟩); have p604 : 0 ≤ (x9_1 : Int) := of_decide_eq_true (by first | (with_reducible assumption) | assumption); have q604 : x9_1 < (t597.length : Int) := of_decide_eq_true (by first | (with_reducible assumption) | assumption); obtain ⟨ad604, e604, hx604_0⟩ := Kd.at_int (Kd.R_reads' HO_8.out).2.2 x9_1 p604 q604; obtain rfl : ad600 = ad604 := (by injection e604); replace p604 := eq_true p604; replace q604 := eq_true q604) | (go_at_call 57; (with_reducible refine (avermentref08_Has.calls a1 (rd t597 x9_1) true _ A14.out).mono ?_); rintro e w' ⟨rfl, ⟨nd, rfl⟩⟩; (try first | exact ⟨rfl, _, World.drewN_drewN _ _ _⟩ | exact ⟨rfl, _, Eq.trans (World.drewN_drewN _ _ _) (congrArg (World.drewN _) (Nat.add_assoc _ _ _))⟩); have p606 : 0 ≤ (x10_2 : Int) := of_decide_eq_true (by first | (with_reducible assumption) | assumption); have q606 : x10_2 < (t597.length : Int) := of_decide_eq_true (by first | (with_reducible assumption) | assumption); obtain ⟨ad606, e606, hx606_0⟩ := Kd.at_int (Kd.R_reads' HO_8.out).2.2 x10_2 p606 q606; obtain rfl : ad600 = ad606 := (by injection e606); replace p606 := eq_true p606; replace q606 := eq_true q606) | (go_at_call 57; (with_reducible refine (avermentref08_Has.calls a2 (rd t597 x10_2) true _ A16.out).mono ?_); rintro e w' ⟨rfl, ⟨nd, rfl⟩⟩; (try first | exact ⟨rfl, _, World.drewN_drewN _ _ _⟩ | exact ⟨rfl, _, Eq.trans (World.drewN_drewN _ _ _) (congrArg (World.drewN _) (Nat.add_assoc _ _ _))⟩)) | (go_at_call 58; (with_reducible refine (avermentref08_Of.calls t602 t608 _ A18.out).mono ?_); rintro e w' ⟨rfl, ⟨nd, rfl⟩⟩; (try first | exact ⟨rfl, _, World.drewN_drewN _ _ _⟩ | exact ⟨rfl, _, Eq.trans (World.drewN_drewN _ _ _) (congrArg (World.drewN _) (Nat.add_assoc _ _ _))⟩)))
                          repeat (go_quiet (first | (go_at_call 89; (with_reducible refine (avermentref07_Arith.calls a0 (rd t597 x9_1) (rd t597 x10_2) t602 true _ A12.out).mono ?_); rintro e w' ⟨rfl, ⟨nd, rfl⟩⟩; (try first | exact ⟨rfl, _, World.drewN_drewN _ _ _⟩ | exact ⟨rfl, _, Eq.trans (World.drewN_drewN _ _ _) (congrArg (World.drewN _) (Nat.add_assoc _ _ _))⟩); have p604 : 0 ≤ (x9_1 : Int) := of_decide_eq_true (by first | (with_reducible assumption) | assumption); have q604 : x9_1 < (t597.length : Int) := of_decide_eq_true (by first | (with_reducible assumption) | assumption); obtain ⟨ad604, e604, hx604_0⟩ := Kd.at_int (Kd.R_reads' HO_8.out).2.2 x9_1 p604 q604; obtain rfl : ad600 = ad604 := (by injection e604); replace p604 := eq_true p604; replace q604 := eq_true q604) | (go_at_call 57; (with_reducible refine (avermentref08_Has.calls a1 (rd t597 x9_1) true _ A14.out).mono ?_); rintro e w' ⟨rfl, ⟨nd, rfl⟩⟩; (try first | exact ⟨rfl, _, World.drewN_drewN _ _ _⟩ | exact ⟨rfl, _, Eq.trans (World.drewN_drewN _ _ _) (congrArg (World.drewN _) (Nat.add_assoc _ _ _))⟩); have p606 : 0 ≤ (x10_2 : Int) := of_decide_eq_true (by first | (with_reducible assumption) | assumption); have q606 : x10_2 < (t597.length : Int) := of_decide_eq_true (by first | (with_reducible assumption) | assumption); obtain ⟨ad606, e606, hx606_0⟩ := Kd.at_int (Kd.R_reads' HO_8.out).2.2 x10_2 p606 q606; obtain rfl : ad600 = ad606 := (by injection e606); replace p606 := eq_true p606; replace q606 := eq_true q606) | (go_at_call 57; (with_reducible refine (avermentref08_Has.calls a2 (rd t597 x10_2) true _ A16.out).mono ?_); rintro e w' ⟨rfl, ⟨nd, rfl⟩⟩; (try first | exact ⟨rfl, _, World.drewN_drewN _ _ _⟩ | exact ⟨rfl, _, Eq.trans (World.drewN_drewN _ _ _) (congrArg (World.drewN _) (Nat.add_assoc _ _ _))⟩)) | (go_at_call 58; (with_reducible refine (avermentref08_Of.calls t602 t608 _ A18.out).mono ?_); rintro e w' ⟨rfl, ⟨nd, rfl⟩⟩; (try first | exact ⟨rfl, _, World.drewN_drewN _ _ _⟩ | exact ⟨rfl, _, Eq.trans (World.drewN_drewN _ _ _) (congrArg (World.drewN _) (Nat.add_assoc _ _ _))⟩))); try go_wp2_with (first | (go_at_call 89; (with_reducible refine (avermentref07_Arith.calls a0 (rd t597 x9_1) (rd t597 x10_2) t602 true _ A12.out).mono ?_); rintro e w' ⟨rfl, ⟨nd, rfl⟩⟩; (try first | exact ⟨rfl, _, World.drewN_drewN _ _ _⟩ | exact ⟨rfl, _, Eq.trans (World.drewN_drewN _ _ _) (congrArg (World.drewN _) (Nat.add_assoc _ _ _))⟩); have p604 : 0 ≤ (x9_1 : Int) := of_decide_eq_true (by first | (with_reducible assumption) | assumption); have q604 : x9_1 < (t597.length : Int) := of_decide_eq_true (by first | (with_reducible assumption) | assumption); obtain ⟨ad604, e604, hx604_0⟩ := Kd.at_int (Kd.R_reads' HO_8.out).2.2 x9_1 p604 q604; obtain rfl : ad600 = ad604 := (by injection e604); replace p604 := eq_true p604; replace q604 := eq_true q604) | (go_at_call 57; (with_reducible refine (avermentref08_Has.calls a1 (rd t597 x9_1) true _ A14.out).mono ?_); rintro e w' ⟨rfl, ⟨nd, rfl⟩⟩; (try first | exact ⟨rfl, _, World.drewN_drewN _ _ _⟩ | exact ⟨rfl, _, Eq.trans (World.drewN_drewN _ _ _) (congrArg (World.drewN _) (Nat.add_assoc _ _ _))⟩); have p606 : 0 ≤ (x10_2 : Int) := of_decide_eq_true (by first | (with_reducible assumption) | assumption); have q606 : x10_2 < (t597.length : Int) := of_decide_eq_true (by first | (with_reducible assumption) | assumption); obtain ⟨ad606, e606, hx606_0⟩ := Kd.at_int (Kd.R_reads' HO_8.out).2.2 x10_2 p606 q606; obtain rfl : ad600 = ad606 := (by injection e606); replace p606 := eq_true p606; replace q606 := eq_true q606) | (go_at_call 57; (with_reducible refine (avermentref08_Has.calls a2 (rd t597 x10_2) true _ A16.out).mono ?_); rintro e w' ⟨rfl, ⟨nd, rfl⟩⟩; (try first | exact ⟨rfl, _, World.drewN_drewN _ _ _⟩ | exact ⟨rfl, _, Eq.trans (World.drewN_drewN _ _ _) (congrArg (World.drewN _) (Nat.add_assoc _ _ _))⟩)) | (go_at_call 58; (with_reducible refine (avermentref08_Of.calls t602 t608 _ A18.out).mono ?_); rintro e w' ⟨rfl, ⟨nd, rfl⟩⟩; (try first | exact ⟨rfl, _, World.drewN_drewN _ _ _⟩ | exact ⟨rfl, _, Eq.trans (World.drewN_drewN _ _ _) (congrArg (World.drewN _) (Nat.add_assoc _ _ _))⟩))))
                          go_roundg k2
                          case measure => have := HK1.out; have := HK2.out; omega
                          case rel => exact ⟨(Go.bits .or .i64 x7_2 t608), (wrap64 (x10_2 + 1)), (by first | rfl | (simp; done) | (simp [*]; done)), (by first | rfl | (simp; done) | (simp [*]; done)), H', ⟨by have := HK1.out; have := HK2.out; omega⟩, ⟨by (with_reducible repeat (first | apply Kd.R_alloc | apply Kd.R_drewN | apply Kd.R_drew)); exact HO_8.out⟩, ⟨by repeat (first | (with_reducible first | exact HB.out | apply below_alloc | apply pw_below_drewN | apply below_drew1) | exact HB.out)⟩⟩
                        · replace c17 := Bool.eq_false_iff.mpr c17
                          subst c17
                          have H1 : (avermentref08_Two.l1 k2 a0 a1 a2 x7_2 t597 x9_1 (wrap64 (x10_2 + 1))) = some r := by rw [if_neg (show ¬ (false = true) by decide)] at H; exact H
                          clear H
                          have H := H1
                          clear H1
                          have H' := Aside0.mk H
                          clear H
                          have p600 : 0 ≤ (x9_1 : Int) := of_decide_eq_true (by first | (with_reducible assumption) | assumption)
                          have q600 : x9_1 < (t597.length : Int) := of_decide_eq_true (by first | (with_reducible assumption) | assumption)
                          obtain ⟨ad600, e600, hx600_0⟩ := Kd.at_int (Kd.R_reads' HO_8.out).2.2 x9_1 p600 q600
                          cases e600
                          replace p600 := eq_true p600
                          replace q600 := eq_true q600
                          have p601 : 0 ≤ (x10_2 : Int) := of_decide_eq_true (by first | (with_reducible assumption) | assumption)
                          have q601 : x10_2 < (t597.length : Int) := of_decide_eq_true (by first | (with_reducible assumption) | assumption)
                          obtain ⟨ad601, e601, hx601_0⟩ := Kd.at_int (Kd.R_reads' HO_8.out).2.2 x10_2 p601 q601
                          obtain rfl : ad600 = ad601 := (by injection e601)
                          replace p601 := eq_true p601
                          replace q601 := eq_true q601
                          go_wp2_with (first | (go_at_call 89; (with_reducible refine (avermentref07_Arith.calls a0 (rd t597 x9_1) (rd t597 x10_2) t602 true _ A12.out).mono ?_); rintro e w' ⟨rfl, ⟨nd, rfl⟩⟩; (try first | exact ⟨rfl, _, World.drewN_drewN _ _ _⟩ | exact ⟨rfl, _, Eq.trans (World.drewN_drewN _ _ _) (congrArg (World.drewN _) (Nat.add_assoc _ _ _))⟩); have p604 : 0 ≤ (x9_1 : Int) := of_decide_eq_true (by first | (with_reducible assumption) | assumption); have q604 : x9_1 < (t597.length : Int) := of_decide_eq_true (by first | (with_reducible assumption) | assumption); obtain ⟨ad604, e604, hx604_0⟩ := Kd.at_int (Kd.R_reads' HO_8.out).2.2 x9_1 p604 q604; obtain rfl : ad600 = ad604 := (by injection e604); replace p604 := eq_true p604; replace q604 := eq_true q604) | (go_at_call 57; (with_reducible refine (avermentref08_Has.calls a1 (rd t597 x9_1) true _ A14.out).mono ?_); rintro e w' ⟨rfl, ⟨nd, rfl⟩⟩; (try first | exact ⟨rfl, _, World.drewN_drewN _ _ _⟩ | exact ⟨rfl, _, Eq.trans (World.drewN_drewN _ _ _) (congrArg (World.drewN _) (Nat.add_assoc _ _ _))⟩); have p606 : 0 ≤ (x10_2 : Int) := of_decide_eq_true (by first | (with_reducible assumption) | assumption); have q606 : x10_2 < (t597.length : Int) := of_decide_eq_true (by first | (with_reducible assumption) | assumption); obtain ⟨ad606, e606, hx606_0⟩ := Kd.at_int (Kd.R_reads' HO_8.out).2.2 x10_2 p606 q606; obtain rfl : ad600 = ad606 := (by injection e606); replace p606 := eq_true p606; replace q606 := eq_true q606) | (go_at_call 57; (with_reducible refine (avermentref08_Has.calls a2 (rd t597 x10_2) false _ A16.out).mono ?_); rintro e w' ⟨rfl, ⟨nd, rfl⟩⟩; (try first | exact ⟨rfl, _, World.drewN_drewN _ _ _⟩ | exact ⟨rfl, _, Eq.trans (World.drewN_drewN _ _ _) (congrArg (World.drewN _) (Nat.add_assoc _ _ _))⟩)))
                          repeat (go_quiet (first | (go_at_call 89; (with_reducible refine (avermentref07_Arith.calls a0 (rd t597 x9_1) (rd t597 x10_2) t602 true _ A12.out).mono ?_); rintro e w' ⟨rfl, ⟨nd, rfl⟩⟩; (try first | exact ⟨rfl, _, World.drewN_drewN _ _ _⟩ | exact ⟨rfl, _, Eq.trans (World.drewN_drewN _ _ _) (congrArg (World.drewN _) (Nat.add_assoc _ _ _))⟩); have p604 : 0 ≤ (x9_1 : Int) := of_decide_eq_true (by first | (with_reducible assumption) | assumption); have q604 : x9_1 < (t597.length : Int) := of_decide_eq_true (by first | (with_reducible assumption) | assumption); obtain ⟨ad604, e604, hx604_0⟩ := Kd.at_int (Kd.R_reads' HO_8.out).2.2 x9_1 p604 q604; obtain rfl : ad600 = ad604 := (by injection e604); replace p604 := eq_true p604; replace q604 := eq_true q604) | (go_at_call 57; (with_reducible refine (avermentref08_Has.calls a1 (rd t597 x9_1) true _ A14.out).mono ?_); rintro e w' ⟨rfl, ⟨nd, rfl⟩⟩; (try first | exact ⟨rfl, _, World.drewN_drewN _ _ _⟩ | exact ⟨rfl, _, Eq.trans (World.drewN_drewN _ _ _) (congrArg (World.drewN _) (Nat.add_assoc _ _ _))⟩); have p606 : 0 ≤ (x10_2 : Int) := of_decide_eq_true (by first | (with_reducible assumption) | assumption); have q606 : x10_2 < (t597.length : Int) := of_decide_eq_true (by first | (with_reducible assumption) | assumption); obtain ⟨ad606, e606, hx606_0⟩ := Kd.at_int (Kd.R_reads' HO_8.out).2.2 x10_2 p606 q606; obtain rfl : ad600 = ad606 := (by injection e606); replace p606 := eq_true p606; replace q606 := eq_true q606) | (go_at_call 57; (with_reducible refine (avermentref08_Has.calls a2 (rd t597 x10_2) false _ A16.out).mono ?_); rintro e w' ⟨rfl, ⟨nd, rfl⟩⟩; (try first | exact ⟨rfl, _, World.drewN_drewN _ _ _⟩ | exact ⟨rfl, _, Eq.trans (World.drewN_drewN _ _ _) (congrArg (World.drewN _) (Nat.add_assoc _ _ _))⟩))); try go_wp2_with (first | (go_at_call 89; (with_reducible refine (avermentref07_Arith.calls a0 (rd t597 x9_1) (rd t597 x10_2) t602 true _ A12.out).mono ?_); rintro e w' ⟨rfl, ⟨nd, rfl⟩⟩; (try first | exact ⟨rfl, _, World.drewN_drewN _ _ _⟩ | exact ⟨rfl, _, Eq.trans (World.drewN_drewN _ _ _) (congrArg (World.drewN _) (Nat.add_assoc _ _ _))⟩); have p604 : 0 ≤ (x9_1 : Int) := of_decide_eq_true (by first | (with_reducible assumption) | assumption); have q604 : x9_1 < (t597.length : Int) := of_decide_eq_true (by first | (with_reducible assumption) | assumption); obtain ⟨ad604, e604, hx604_0⟩ := Kd.at_int (Kd.R_reads' HO_8.out).2.2 x9_1 p604 q604; obtain rfl : ad600 = ad604 := (by injection e604); replace p604 := eq_true p604; replace q604 := eq_true q604) | (go_at_call 57; (with_reducible refine (avermentref08_Has.calls a1 (rd t597 x9_1) true _ A14.out).mono ?_); rintro e w' ⟨rfl, ⟨nd, rfl⟩⟩; (try first | exact ⟨rfl, _, World.drewN_drewN _ _ _⟩ | exact ⟨rfl, _, Eq.trans (World.drewN_drewN _ _ _) (congrArg (World.drewN _) (Nat.add_assoc _ _ _))⟩); have p606 : 0 ≤ (x10_2 : Int) := of_decide_eq_true (by first | (with_reducible assumption) | assumption); have q606 : x10_2 < (t597.length : Int) := of_decide_eq_true (by first | (with_reducible assumption) | assumption); obtain ⟨ad606, e606, hx606_0⟩ := Kd.at_int (Kd.R_reads' HO_8.out).2.2 x10_2 p606 q606; obtain rfl : ad600 = ad606 := (by injection e606); replace p606 := eq_true p606; replace q606 := eq_true q606) | (go_at_call 57; (with_reducible refine (avermentref08_Has.calls a2 (rd t597 x10_2) false _ A16.out).mono ?_); rintro e w' ⟨rfl, ⟨nd, rfl⟩⟩; (try first | exact ⟨rfl, _, World.drewN_drewN _ _ _⟩ | exact ⟨rfl, _, Eq.trans (World.drewN_drewN _ _ _) (congrArg (World.drewN _) (Nat.add_assoc _ _ _))⟩))))
                          go_roundg k2
                          case measure => have := HK1.out; have := HK2.out; omega
                          case rel => exact ⟨(x7_2), (wrap64 (x10_2 + 1)), (by first | rfl | (simp; done) | (simp [*]; done)), (by first | rfl | (simp; done) | (simp [*]; done)), H', ⟨by have := HK1.out; have := HK2.out; omega⟩, ⟨by (with_reducible repeat (first | apply Kd.R_alloc | apply Kd.R_drewN | apply Kd.R_drew)); exact HO_8.out⟩, ⟨by repeat (first | (with_reducible first | exact HB.out | apply below_alloc | apply pw_below_drewN | apply below_drew1) | exact HB.out)⟩⟩
                      · replace c15 := Bool.eq_false_iff.mpr c15
                        subst c15
                        have H1 : (avermentref08_Two.l1 k2 a0 a1 a2 x7_2 t597 x9_1 (wrap64 (x10_2 + 1))) = some r := by rw [if_neg (show ¬ (false = true) by decide)] at H; exact H
                        clear H
                        have H := H1
                        clear H1
                        have H' := Aside0.mk H
                        clear H
                        have p600 : 0 ≤ (x9_1 : Int) := of_decide_eq_true (by first | (with_reducible assumption) | assumption)
                        have q600 : x9_1 < (t597.length : Int) := of_decide_eq_true (by first | (with_reducible assumption) | assumption)
                        obtain ⟨ad600, e600, hx600_0⟩ := Kd.at_int (Kd.R_reads' HO_8.out).2.2 x9_1 p600 q600
                        cases e600
                        replace p600 := eq_true p600
                        replace q600 := eq_true q600
                        have p601 : 0 ≤ (x10_2 : Int) := of_decide_eq_true (by first | (with_reducible assumption) | assumption)
                        have q601 : x10_2 < (t597.length : Int) := of_decide_eq_true (by first | (with_reducible assumption) | assumption)
                        obtain ⟨ad601, e601, hx601_0⟩ := Kd.at_int (Kd.R_reads' HO_8.out).2.2 x10_2 p601 q601
                        obtain rfl : ad600 = ad601 := (by injection e601)
                        replace p601 := eq_true p601
                        replace q601 := eq_true q601
                        go_wp2_with (first | (go_at_call 89; (with_reducible refine (avermentref07_Arith.calls a0 (rd t597 x9_1) (rd t597 x10_2) t602 true _ A12.out).mono ?_); rintro e w' ⟨rfl, ⟨nd, rfl⟩⟩; (try first | exact ⟨rfl, _, World.drewN_drewN _ _ _⟩ | exact ⟨rfl, _, Eq.trans (World.drewN_drewN _ _ _) (congrArg (World.drewN _) (Nat.add_assoc _ _ _))⟩); have p604 : 0 ≤ (x9_1 : Int) := of_decide_eq_true (by first | (with_reducible assumption) | assumption); have q604 : x9_1 < (t597.length : Int) := of_decide_eq_true (by first | (with_reducible assumption) | assumption); obtain ⟨ad604, e604, hx604_0⟩ := Kd.at_int (Kd.R_reads' HO_8.out).2.2 x9_1 p604 q604; obtain rfl : ad600 = ad604 := (by injection e604); replace p604 := eq_true p604; replace q604 := eq_true q604) | (go_at_call 57; (with_reducible refine (avermentref08_Has.calls a1 (rd t597 x9_1) false _ A14.out).mono ?_); rintro e w' ⟨rfl, ⟨nd, rfl⟩⟩; (try first | exact ⟨rfl, _, World.drewN_drewN _ _ _⟩ | exact ⟨rfl, _, Eq.trans (World.drewN_drewN _ _ _) (congrArg (World.drewN _) (Nat.add_assoc _ _ _))⟩)))
                        repeat (go_quiet (first | (go_at_call 89; (with_reducible refine (avermentref07_Arith.calls a0 (rd t597 x9_1) (rd t597 x10_2) t602 true _ A12.out).mono ?_); rintro e w' ⟨rfl, ⟨nd, rfl⟩⟩; (try first | exact ⟨rfl, _, World.drewN_drewN _ _ _⟩ | exact ⟨rfl, _, Eq.trans (World.drewN_drewN _ _ _) (congrArg (World.drewN _) (Nat.add_assoc _ _ _))⟩); have p604 : 0 ≤ (x9_1 : Int) := of_decide_eq_true (by first | (with_reducible assumption) | assumption); have q604 : x9_1 < (t597.length : Int) := of_decide_eq_true (by first | (with_reducible assumption) | assumption); obtain ⟨ad604, e604, hx604_0⟩ := Kd.at_int (Kd.R_reads' HO_8.out).2.2 x9_1 p604 q604; obtain rfl : ad600 = ad604 := (by injection e604); replace p604 := eq_true p604; replace q604 := eq_true q604) | (go_at_call 57; (with_reducible refine (avermentref08_Has.calls a1 (rd t597 x9_1) false _ A14.out).mono ?_); rintro e w' ⟨rfl, ⟨nd, rfl⟩⟩; (try first | exact ⟨rfl, _, World.drewN_drewN _ _ _⟩ | exact ⟨rfl, _, Eq.trans (World.drewN_drewN _ _ _) (congrArg (World.drewN _) (Nat.add_assoc _ _ _))⟩))); try go_wp2_with (first | (go_at_call 89; (with_reducible refine (avermentref07_Arith.calls a0 (rd t597 x9_1) (rd t597 x10_2) t602 true _ A12.out).mono ?_); rintro e w' ⟨rfl, ⟨nd, rfl⟩⟩; (try first | exact ⟨rfl, _, World.drewN_drewN _ _ _⟩ | exact ⟨rfl, _, Eq.trans (World.drewN_drewN _ _ _) (congrArg (World.drewN _) (Nat.add_assoc _ _ _))⟩); have p604 : 0 ≤ (x9_1 : Int) := of_decide_eq_true (by first | (with_reducible assumption) | assumption); have q604 : x9_1 < (t597.length : Int) := of_decide_eq_true (by first | (with_reducible assumption) | assumption); obtain ⟨ad604, e604, hx604_0⟩ := Kd.at_int (Kd.R_reads' HO_8.out).2.2 x9_1 p604 q604; obtain rfl : ad600 = ad604 := (by injection e604); replace p604 := eq_true p604; replace q604 := eq_true q604) | (go_at_call 57; (with_reducible refine (avermentref08_Has.calls a1 (rd t597 x9_1) false _ A14.out).mono ?_); rintro e w' ⟨rfl, ⟨nd, rfl⟩⟩; (try first | exact ⟨rfl, _, World.drewN_drewN _ _ _⟩ | exact ⟨rfl, _, Eq.trans (World.drewN_drewN _ _ _) (congrArg (World.drewN _) (Nat.add_assoc _ _ _))⟩))))
                        go_roundg k2
                        case measure => have := HK1.out; have := HK2.out; omega
                        case rel => exact ⟨(x7_2), (wrap64 (x10_2 + 1)), (by first | rfl | (simp; done) | (simp [*]; done)), (by first | rfl | (simp; done) | (simp [*]; done)), H', ⟨by have := HK1.out; have := HK2.out; omega⟩, ⟨by (with_reducible repeat (first | apply Kd.R_alloc | apply Kd.R_drewN | apply Kd.R_drew)); exact HO_8.out⟩, ⟨by repeat (first | (with_reducible first | exact HB.out | apply below_alloc | apply pw_below_drewN | apply below_drew1) | exact HB.out)⟩⟩
                    · replace c13 := Bool.eq_false_iff.mpr c13
                      subst c13
                      have H1 : (avermentref08_Two.l1 k2 a0 a1 a2 x7_2 t597 x9_1 (wrap64 (x10_2 + 1))) = some r := by rw [if_neg (show ¬ (false = true) by decide)] at H; exact H
                      clear H
                      have H := H1
                      clear H1
                      have H' := Aside0.mk H
                      clear H
                      have p600 : 0 ≤ (x9_1 : Int) := of_decide_eq_true (by first | (with_reducible assumption) | assumption)
                      have q600 : x9_1 < (t597.length : Int) := of_decide_eq_true (by first | (with_reducible assumption) | assumption)
                      obtain ⟨ad600, e600, hx600_0⟩ := Kd.at_int (Kd.R_reads' HO_8.out).2.2 x9_1 p600 q600
                      cases e600
                      replace p600 := eq_true p600
                      replace q600 := eq_true q600
                      have p601 : 0 ≤ (x10_2 : Int) := of_decide_eq_true (by first | (with_reducible assumption) | assumption)
                      have q601 : x10_2 < (t597.length : Int) := of_decide_eq_true (by first | (with_reducible assumption) | assumption)
                      obtain ⟨ad601, e601, hx601_0⟩ := Kd.at_int (Kd.R_reads' HO_8.out).2.2 x10_2 p601 q601
                      obtain rfl : ad600 = ad601 := (by injection e601)
                      replace p601 := eq_true p601
                      replace q601 := eq_true q601
                      go_wp2_with (first | (go_at_call 89; (with_reducible refine (avermentref07_Arith.calls a0 (rd t597 x9_1) (rd t597 x10_2) t602 false _ A12.out).mono ?_); rintro e w' ⟨rfl, ⟨nd, rfl⟩⟩; (try first | exact ⟨rfl, _, World.drewN_drewN _ _ _⟩ | exact ⟨rfl, _, Eq.trans (World.drewN_drewN _ _ _) (congrArg (World.drewN _) (Nat.add_assoc _ _ _))⟩)))
                      repeat (go_quiet (first | (go_at_call 89; (with_reducible refine (avermentref07_Arith.calls a0 (rd t597 x9_1) (rd t597 x10_2) t602 false _ A12.out).mono ?_); rintro e w' ⟨rfl, ⟨nd, rfl⟩⟩; (try first | exact ⟨rfl, _, World.drewN_drewN _ _ _⟩ | exact ⟨rfl, _, Eq.trans (World.drewN_drewN _ _ _) (congrArg (World.drewN _) (Nat.add_assoc _ _ _))⟩))); try go_wp2_with (first | (go_at_call 89; (with_reducible refine (avermentref07_Arith.calls a0 (rd t597 x9_1) (rd t597 x10_2) t602 false _ A12.out).mono ?_); rintro e w' ⟨rfl, ⟨nd, rfl⟩⟩; (try first | exact ⟨rfl, _, World.drewN_drewN _ _ _⟩ | exact ⟨rfl, _, Eq.trans (World.drewN_drewN _ _ _) (congrArg (World.drewN _) (Nat.add_assoc _ _ _))⟩))))
                      go_roundg k2
                      case measure => have := HK1.out; have := HK2.out; omega
                      case rel => exact ⟨(x7_2), (wrap64 (x10_2 + 1)), (by first | rfl | (simp; done) | (simp [*]; done)), (by first | rfl | (simp; done) | (simp [*]; done)), H', ⟨by have := HK1.out; have := HK2.out; omega⟩, ⟨by (with_reducible repeat (first | apply Kd.R_alloc | apply Kd.R_drewN | apply Kd.R_drew)); exact HO_8.out⟩, ⟨by repeat (first | (with_reducible first | exact HB.out | apply below_alloc | apply pw_below_drewN | apply below_drew1) | exact HB.out)⟩⟩
                  · rw [if_neg c11] at H
                    exact absurd H (by simp)
                · rw [if_neg c10] at H
                  exact absurd H (by simp)
              · rw [if_neg c9] at H
                exact absurd H (by simp)
            · rw [if_neg c8] at H
              have c8b0 : decide (x10_2 < (t597.length : Int)) = false := decide_eq_false c8
              clear c8
              have H' := Aside0.mk H
              clear H
              go_wp2
              repeat (go_quiet (fail); try go_wp2)
              go_roundg k2
              case measure => have := HK1.out; have := HK2.out; omega
              case rel => exact ⟨(x7_2), (wrap64 (x9_1 + 1)), (by first | rfl | (simp; done) | (simp [*]; done)), (by first | rfl | (simp; done) | (simp [*]; done)), H', ⟨by have := HK1.out; have := HK2.out; omega⟩, ⟨by (with_reducible repeat (first | apply Kd.R_alloc | apply Kd.R_drewN | apply Kd.R_drew)); exact HO_8.out⟩, ⟨by repeat (first | (with_reducible first | exact HB.out | apply below_alloc | apply pw_below_drewN | apply below_drew1) | exact HB.out)⟩⟩
      · rw [if_neg c6] at H
        have c6b0 : decide (x9_1 < (t597.length : Int)) = false := decide_eq_false c6
        clear c6
        obtain rfl := Option.some.inj H
        obtain ⟨Ao19, co19, eo19⟩ := Kd.R_slice HO_8.out
        subst eo19
        go_wp2
        repeat (go_quiet (fail); try go_wp2)
        go_ret
        exact ⟨by first | rfl | (simp [errW_none, errW_some] <;> rfl) | (simp [*, errW_none, errW_some] <;> rfl), by repeat (first | (with_reducible first | exact HB.out | apply below_alloc | apply pw_below_drewN | apply below_drew1) | exact HB.out)⟩

/-! ### avermentref11_Of: function 99 -/
def avermentref11_Of.f (a0 : Int) : Option (Int) := if (Int.tmod a0 2) = 0 then (some 1) else (some 2)
set_option maxHeartbeats 8000000 in
set_option maxRecDepth 100000 in
theorem avermentref11_Of.calls (a0 : Int) (r : Int) (w : World) (h : avermentref11_Of.f a0 = some r) :
    Calls Tryz.prog 99 #[.int .i64 a0] w fun e w' => e = .returned (.int .i64 r) ∧ Drawn0 w w' := by
  have H : (if (Int.tmod a0 2) = 0 then (some 1) else (some 2)) = some r := h
  clear h
  by_cases c2 : (Int.tmod a0 2) = 0
  · rw [if_pos c2] at H
    have c2b0 : ((Int.tmod a0 2) == 0) = true := beq_iff_eq.mpr c2
    have c2b1 : ((Int.tmod a0 2) != 0) = false := bne_eq_false_iff_eq.mpr c2
    clear c2
    obtain rfl := Option.some.inj H
    go_enter Tryz.func99, Tryz.ntmps99
    go_wp2
    go_ret
    exact ⟨by first | rfl | (simp; done) | (simp [*]; done), by repeat (first | exact Drawn0.refl _ | apply Drawn0.step)⟩
  · rw [if_neg c2] at H
    have c2b0 : ((Int.tmod a0 2) == 0) = false := beq_eq_false_iff_ne.mpr c2
    have c2b1 : ((Int.tmod a0 2) != 0) = true := bne_iff_ne.mpr c2
    obtain rfl := Option.some.inj H
    go_enter Tryz.func99, Tryz.ntmps99
    go_wp2
    go_ret
    exact ⟨by first | rfl | (simp; done) | (simp [*]; done), by repeat (first | exact Drawn0.refl _ | apply Drawn0.step)⟩

/-! ### avermentref11_Has: function 98 -/
def avermentref11_Has.f (a0 : Int) (a1 : Int) : Option (Bool) := (avermentref11_Of.f a1).bind fun t609 => (some ((Go.bits .and .i64 a0 t609) != 0))
set_option maxHeartbeats 8000000 in
set_option maxRecDepth 100000 in
theorem avermentref11_Has.calls (a0 : Int) (a1 : Int) (r : Bool) (w : World) (h : avermentref11_Has.f a0 a1 = some r) :
    Calls Tryz.prog 98 #[.int .i64 a0, .int .i64 a1] w fun e w' => e = .returned (.bool r) ∧ Drawn0 w w' := by
  have H : ((avermentref11_Of.f a1).bind fun t609 => (some ((Go.bits .and .i64 a0 t609) != 0))) = some r := h
  clear h
  replace H := Option.bind_eq_some_iff.mp H
  obtain ⟨t609, A30, H⟩ := H
  replace H : (some ((Go.bits .and .i64 a0 t609) != 0)) = some r := H
  have A3 := Aside0.mk A30
  clear A30
  obtain rfl := Option.some.inj H
  go_enter Tryz.func98, Tryz.ntmps98
  go_wp2_with (first | ((with_reducible refine gate_callee (f := 99) rfl ?_); refine goesL_ (some 7) rfl rfl Tryz.func99 (by kernel_rfl) rfl #[.int .i64 a1] rfl (by (try simp only [List.map_toArray, List.map_cons, List.map_nil]); first | done | rfl | (simp only [List.length_drop, List.length_take]; rfl)) ?_; (with_reducible refine (avermentref11_Of.calls a1 t609 _ A3.out).mono ?_); rintro e w' ⟨rfl, ⟨nd, rfl⟩⟩; refine ⟨_, rfl, ?_⟩))
  go_ret
  exact ⟨by first | rfl | (simp; done) | (simp [*]; done), by repeat (first | exact Drawn0.refl _ | apply Drawn0.step)⟩

/-! ### avermentref11_Two: function 42 -/
mutual
def avermentref11_Two.l0 : Nat → Int → Int → Int → Int → List Int → Int → Option (Int)
  | 0, _, _, _, _, _, _ => none
  | k + 1, x0, x1, x2, x7, x8, x9 => if x9 < (x8.length : Int) then (avermentref11_Two.l1 k x0 x1 x2 x7 x8 x9 0) else (some x7)
def avermentref11_Two.l1 : Nat → Int → Int → Int → Int → List Int → Int → Int → Option (Int)
  | 0, _, _, _, _, _, _, _ => none
  | k + 1, x0, x1, x2, x7, x8, x9, x10 => if x10 < (x8.length : Int) then (if 0 ≤ x9 then (if x9 < (x8.length : Int) then (if 0 ≤ x10 then ((avermentref07_Arith.f x0 (rd x8 x9) (rd x8 x10)).bind fun bt615 => (if bt615.2 = true then ((avermentref11_Has.f x1 (rd x8 x9)).bind fun t618 => (if t618 = true then ((avermentref11_Has.f x2 (rd x8 x10)).bind fun t620 => (if t620 = true then ((avermentref11_Of.f bt615.1).bind fun t621 => (avermentref11_Two.l1 k x0 x1 x2 (Go.bits .or .i64 x7 t621) x8 x9 (wrap64 (x10 + 1)))) else (avermentref11_Two.l1 k x0 x1 x2 x7 x8 x9 (wrap64 (x10 + 1))))) else (avermentref11_Two.l1 k x0 x1 x2 x7 x8 x9 (wrap64 (x10 + 1))))) else (avermentref11_Two.l1 k x0 x1 x2 x7 x8 x9 (wrap64 (x10 + 1))))) else (none)) else (none)) else (none)) else (avermentref11_Two.l0 k x0 x1 x2 x7 x8 (wrap64 (x9 + 1)))
end
def avermentref11_Two.f (k : Nat) (a0 : Int) (a1 : Int) (a2 : Int) : Option (Int) := (avermentref08_Nums.f).bind fun t610 => (avermentref11_Two.l0 k a0 a1 a2 0 t610 0)
theorem avermentref11_Two.mono_l : ∀ k, (∀ y0 y1 y2 y3 y4 y5, LeO (avermentref11_Two.l0 k y0 y1 y2 y3 y4 y5) (avermentref11_Two.l0 (k + 1) y0 y1 y2 y3 y4 y5)) ∧ (∀ y0 y1 y2 y3 y4 y5 y6, LeO (avermentref11_Two.l1 k y0 y1 y2 y3 y4 y5 y6) (avermentref11_Two.l1 (k + 1) y0 y1 y2 y3 y4 y5 y6))
  | 0 => ⟨fun _ _ _ _ _ _ r h => by simp [avermentref11_Two.l0] at h, fun _ _ _ _ _ _ _ r h => by simp [avermentref11_Two.l1] at h⟩
  | k + 1 => by
    obtain ⟨ih0, ih1⟩ := avermentref11_Two.mono_l k
    refine ⟨?_, ?_⟩
    · intro y0 y1 y2 y3 y4 y5
      unfold avermentref11_Two.l0
      repeat' first
      | (with_reducible exact ih0 _ _ _ _ _ _)
      | (with_reducible exact ih1 _ _ _ _ _ _ _)
      | (with_reducible exact LeO.refl _)
      | (with_reducible exact LeO.none _)
      | (with_reducible refine LeO.ite ?_ ?_)
      | (with_reducible refine LeO.bind ?_ (fun _ => ?_))
      | exact ih0 _ _ _ _ _ _
      | exact ih1 _ _ _ _ _ _ _
      | exact LeO.none _
      | refine LeO.ite ?_ ?_
      | refine LeO.bind ?_ (fun _ => ?_)
    · intro y0 y1 y2 y3 y4 y5 y6
      unfold avermentref11_Two.l1
      repeat' first
      | (with_reducible exact ih0 _ _ _ _ _ _)
      | (with_reducible exact ih1 _ _ _ _ _ _ _)
      | (with_reducible exact LeO.refl _)
      | (with_reducible exact LeO.none _)
      | (with_reducible refine LeO.ite ?_ ?_)
      | (with_reducible refine LeO.bind ?_ (fun _ => ?_))
      | exact ih0 _ _ _ _ _ _
      | exact ih1 _ _ _ _ _ _ _
      | exact LeO.none _
      | refine LeO.ite ?_ ?_
      | refine LeO.bind ?_ (fun _ => ?_)
theorem avermentref11_Two.mono : ∀ a0 a1 a2 k, LeO (avermentref11_Two.f k a0 a1 a2) (avermentref11_Two.f (k + 1) a0 a1 a2) := by
  intro a0 a1 a2 k
  obtain ⟨ih0, ih1⟩ := avermentref11_Two.mono_l k
  unfold avermentref11_Two.f
  repeat' first
      | (with_reducible exact ih0 _ _ _ _ _ _)
      | (with_reducible exact ih1 _ _ _ _ _ _ _)
      | (with_reducible exact LeO.refl _)
      | (with_reducible exact LeO.none _)
      | (with_reducible refine LeO.ite ?_ ?_)
      | (with_reducible refine LeO.bind ?_ (fun _ => ?_))
      | exact ih0 _ _ _ _ _ _
      | exact ih1 _ _ _ _ _ _ _
      | exact LeO.none _
      | refine LeO.ite ?_ ?_
      | refine LeO.bind ?_ (fun _ => ?_)
set_option maxHeartbeats 8000000 in
set_option maxRecDepth 100000 in
theorem avermentref11_Two.calls (k : Nat) (a0 : Int) (a1 : Int) (a2 : Int) (r : Int) (w : World) (h : avermentref11_Two.f k a0 a1 a2 = some r) :
    Calls Tryz.prog 42 #[.int .i64 a0, .int .i64 a1, .int .i64 a2] w fun e w' => e = .returned (.int .i64 r) ∧ Below w.heap.size w w' := by
  have HB := Aside0.mk (Below.refl w.heap.size w)
  have H : ((avermentref08_Nums.f).bind fun t610 => (avermentref11_Two.l0 k a0 a1 a2 0 t610 0)) = some r := h
  clear h
  replace H := Option.bind_eq_some_iff.mp H
  obtain ⟨t610, A40, H⟩ := H
  replace H : (avermentref11_Two.l0 k a0 a1 a2 0 t610 0) = some r := H
  have A4 := Aside0.mk A40
  clear A40
  have H' := Aside0.mk H
  clear H
  go_enter Tryz.func42, Tryz.ntmps42
  go_wp2_with (first | (go_at_call 56; (with_reducible refine (avermentref08_Nums.calls  t610 _ A4.out).mono ?_); rintro e w5 ⟨v611, rfl, ho0, hb⟩; have n0_ := Aside0.mk (Kd.R_lower ho0 (below_size (by repeat (first | (with_reducible first | exact HB.out | apply below_alloc | apply pw_below_drewN | apply below_drew1) | exact HB.out)))); have n1_ := Aside0.mk (below_step (by repeat (first | (with_reducible first | exact HB.out | apply below_alloc | apply pw_below_drewN | apply below_drew1) | exact HB.out)) hb); clear HB; have HO612 := n0_; have HB := n1_; clear n0_ n1_; (try clear hb); (try clear hb2); (try clear hk); (try clear hi); (try clear ho0)))
  repeat (go_quiet (first | (go_at_call 56; (with_reducible refine (avermentref08_Nums.calls  t610 _ A4.out).mono ?_); rintro e w5 ⟨v611, rfl, ho0, hb⟩; have n0_ := Aside0.mk (Kd.R_lower ho0 (below_size (by repeat (first | (with_reducible first | exact HB.out | apply below_alloc | apply pw_below_drewN | apply below_drew1) | exact HB.out)))); have n1_ := Aside0.mk (below_step (by repeat (first | (with_reducible first | exact HB.out | apply below_alloc | apply pw_below_drewN | apply below_drew1) | exact HB.out)) hb); clear HB; have HO612 := n0_; have HB := n1_; clear n0_ n1_; (try clear hb); (try clear hb2); (try clear hk); (try clear hi); (try clear ho0))); try go_wp2_with (first | (go_at_call 56; (with_reducible refine (avermentref08_Nums.calls  t610 _ A4.out).mono ?_); rintro e w5 ⟨v611, rfl, ho0, hb⟩; have n0_ := Aside0.mk (Kd.R_lower ho0 (below_size (by repeat (first | (with_reducible first | exact HB.out | apply below_alloc | apply pw_below_drewN | apply below_drew1) | exact HB.out)))); have n1_ := Aside0.mk (below_step (by repeat (first | (with_reducible first | exact HB.out | apply below_alloc | apply pw_below_drewN | apply below_drew1) | exact HB.out)) hb); clear HB; have HO612 := n0_; have HB := n1_; clear n0_ n1_; (try clear hb); (try clear hb2); (try clear hk); (try clear hi); (try clear ho0))))
  go_loopg [7, 9] k (fun kq v7 v9 w' => ∃ (x7_1 : Int) (x9_1 : Int), v7 = .int .i64 x7_1 ∧ v9 = .int .i64 x9_1 ∧ Aside0 (avermentref11_Two.l0 kq a0 a1 a2 x7_1 t610 x9_1 = some r) ∧ Aside0 (kq ≤ k) ∧ Aside0 (Kd.R (Kd.int .i64) 2 w' w.heap.size (fun _ => True) v611 t610) ∧ Aside0 (Below w.heap.size w w'))
  case atStart => exact ⟨(0), (0), (by first | rfl | (simp; done) | (simp [*]; done)), (by first | rfl | (simp; done) | (simp [*]; done)), H', ⟨Nat.le_refl _⟩, ⟨by (with_reducible repeat (first | apply Kd.R_alloc | apply Kd.R_drewN | apply Kd.R_drew)); exact HO612.out⟩, ⟨by repeat (first | (with_reducible first | exact HB.out | apply below_alloc | apply pw_below_drewN | apply below_drew1) | exact HB.out)⟩⟩
  case round =>
    clear H'
    try clear p2
    try clear c4
    obtain ⟨x7_1, x9_1, rfl, rfl, HA, HK1, HO_8, HB⟩ := hrel
    cases gk with
    | zero => exact absurd HA.out (by simp [avermentref11_Two.l0])
    | succ k1 =>
      have H := HA.out
      clear HA
      simp only [avermentref11_Two.l0] at H
      by_cases c6 : x9_1 < (t610.length : Int)
      · rw [if_pos c6] at H
        have c6b0 : decide (x9_1 < (t610.length : Int)) = true := decide_eq_true c6
        clear c6
        have H' := Aside0.mk H
        clear H
        obtain ⟨Ao7, co7, eo7⟩ := Kd.R_slice HO_8.out
        subst eo7
        go_wp2
        repeat (go_quiet (fail); try go_wp2)
        go_loopg [7, 10] k1 (fun kq v7 v10 w' => ∃ (x7_2 : Int) (x10_2 : Int), v7 = .int .i64 x7_2 ∧ v10 = .int .i64 x10_2 ∧ Aside0 (avermentref11_Two.l1 kq a0 a1 a2 x7_2 t610 x9_1 x10_2 = some r) ∧ Aside0 (kq ≤ k1) ∧ Aside0 (Kd.R (Kd.int .i64) 2 w' w.heap.size (fun _ => True) (.slice Ao7 t610.length co7) t610) ∧ Aside0 (Below w.heap.size w w'))
        case atStart => exact ⟨(x7_1), (0), (by first | rfl | (simp; done) | (simp [*]; done)), (by first | rfl | (simp; done) | (simp [*]; done)), H', ⟨Nat.le_refl _⟩, ⟨by (with_reducible repeat (first | apply Kd.R_alloc | apply Kd.R_drewN | apply Kd.R_drew)); exact HO_8.out⟩, ⟨by repeat (first | (with_reducible first | exact HB.out | apply below_alloc | apply pw_below_drewN | apply below_drew1) | exact HB.out)⟩⟩
        case round =>
          clear H'
          try clear p2
          try clear c4
          try clear c6
          try clear c6b0
          try clear p2
          obtain ⟨x7_2, x10_2, rfl, rfl, HA, HK2, HO_8, HB⟩ := hrel
          cases gk with
          | zero => exact absurd HA.out (by simp [avermentref11_Two.l1])
          | succ k2 =>
            have H := HA.out
            clear HA
            simp only [avermentref11_Two.l1] at H
            by_cases c8 : x10_2 < (t610.length : Int)
            · rw [if_pos c8] at H
              have c8b0 : decide (x10_2 < (t610.length : Int)) = true := decide_eq_true c8
              clear c8
              by_cases c9 : 0 ≤ x9_1
              · rw [if_pos c9] at H
                have c9b0 : decide (0 ≤ x9_1) = true := decide_eq_true c9
                clear c9
                by_cases c10 : x9_1 < (t610.length : Int)
                · rw [if_pos c10] at H
                  have c10b0 : decide (x9_1 < (t610.length : Int)) = true := decide_eq_true c10
                  clear c10
                  by_cases c11 : 0 ≤ x10_2
                  · rw [if_pos c11] at H
                    have c11b0 : decide (0 ≤ x10_2) = true := decide_eq_true c11
                    clear c11
                    replace H := Option.bind_eq_some_iff.mp H
                    obtain ⟨⟨t615, t616⟩, A120, H⟩ := H
                    replace H : (if t616 = true then ((avermentref11_Has.f a1 (rd t610 x9_1)).bind fun t618 => (if t618 = true then ((avermentref11_Has.f a2 (rd t610 x10_2)).bind fun t620 => (if t620 = true then ((avermentref11_Of.f t615).bind fun t621 => (avermentref11_Two.l1 k2 a0 a1 a2 (Go.bits .or .i64 x7_2 t621) t610 x9_1 (wrap64 (x10_2 + 1)))) else (avermentref11_Two.l1 k2 a0 a1 a2 x7_2 t610 x9_1 (wrap64 (x10_2 + 1))))) else (avermentref11_Two.l1 k2 a0 a1 a2 x7_2 t610 x9_1 (wrap64 (x10_2 + 1))))) else (avermentref11_Two.l1 k2 a0 a1 a2 x7_2 t610 x9_1 (wrap64 (x10_2 + 1)))) = some r := H
                    have A12 := Aside0.mk A120
                    clear A120
                    by_cases c13 : t616 = true
                    · subst c13
                      have H1 : ((avermentref11_Has.f a1 (rd t610 x9_1)).bind fun t618 => (if t618 = true then ((avermentref11_Has.f a2 (rd t610 x10_2)).bind fun t620 => (if t620 = true then ((avermentref11_Of.f t615).bind fun t621 => (avermentref11_Two.l1 k2 a0 a1 a2 (Go.bits .or .i64 x7_2 t621) t610 x9_1 (wrap64 (x10_2 + 1)))) else (avermentref11_Two.l1 k2 a0 a1 a2 x7_2 t610 x9_1 (wrap64 (x10_2 + 1))))) else (avermentref11_Two.l1 k2 a0 a1 a2 x7_2 t610 x9_1 (wrap64 (x10_2 + 1))))) = some r := by rw [if_pos rfl] at H; exact H
                      clear H
                      have H := H1
                      clear H1
                      replace H := Option.bind_eq_some_iff.mp H
                      obtain ⟨t618, A140, H⟩ := H
                      replace H : (if t618 = true then ((avermentref11_Has.f a2 (rd t610 x10_2)).bind fun t620 => (if t620 = true then ((avermentref11_Of.f t615).bind fun t621 => (avermentref11_Two.l1 k2 a0 a1 a2 (Go.bits .or .i64 x7_2 t621) t610 x9_1 (wrap64 (x10_2 + 1)))) else (avermentref11_Two.l1 k2 a0 a1 a2 x7_2 t610 x9_1 (wrap64 (x10_2 + 1))))) else (avermentref11_Two.l1 k2 a0 a1 a2 x7_2 t610 x9_1 (wrap64 (x10_2 + 1)))) = some r := H
                      have A14 := Aside0.mk A140
                      clear A140
                      by_cases c15 : t618 = true
                      · subst c15
                        have H1 : ((avermentref11_Has.f a2 (rd t610 x10_2)).bind fun t620 => (if t620 = true then ((avermentref11_Of.f t615).bind fun t621 => (avermentref11_Two.l1 k2 a0 a1 a2 (Go.bits .or .i64 x7_2 t621) t610 x9_1 (wrap64 (x10_2 + 1)))) else (avermentref11_Two.l1 k2 a0 a1 a2 x7_2 t610 x9_1 (wrap64 (x10_2 + 1))))) = some r := by rw [if_pos rfl] at H; exact H
                        clear H
                        have H := H1
                        clear H1
                        replace H := Option.bind_eq_some_iff.mp H
                        obtain ⟨t620, A160, H⟩ := H
                        replace H : (if t620 = true then ((avermentref11_Of.f t615).bind fun t621 => (avermentref11_Two.l1 k2 a0 a1 a2 (Go.bits .or .i64 x7_2 t621) t610 x9_1 (wrap64 (x10_2 + 1)))) else (avermentref11_Two.l1 k2 a0 a1 a2 x7_2 t610 x9_1 (wrap64 (x10_2 + 1)))) = some r := H
                        have A16 := Aside0.mk A160
                        clear A160
                        by_cases c17 : t620 = true
                        · subst c17
                          have H1 : ((avermentref11_Of.f t615).bind fun t621 => (avermentref11_Two.l1 k2 a0 a1 a2 (Go.bits .or .i64 x7_2 t621) t610 x9_1 (wrap64 (x10_2 + 1)))) = some r := by rw [if_pos rfl] at H; exact H
                          clear H
                          have H := H1
                          clear H1
                          replace H := Option.bind_eq_some_iff.mp H
                          obtain ⟨t621, A180, H⟩ := H
                          replace H : (avermentref11_Two.l1 k2 a0 a1 a2 (Go.bits .or .i64 x7_2 t621) t610 x9_1 (wrap64 (x10_2 + 1))) = some r := H
                          have A18 := Aside0.mk A180
                          clear A180
                          have H' := Aside0.mk H
                          clear H
                          have p613 : 0 ≤ (x9_1 : Int) := of_decide_eq_true (by first | (with_reducible assumption) | assumption)
                          have q613 : x9_1 < (t610.length : Int) := of_decide_eq_true (by first | (with_reducible assumption) | assumption)
                          obtain ⟨ad613, e613, hx613_0⟩ := Kd.at_int (Kd.R_reads' HO_8.out).2.2 x9_1 p613 q613
                          cases e613
                          replace p613 := eq_true p613
                          replace q613 := eq_true q613
                          have p614 : 0 ≤ (x10_2 : Int) := of_decide_eq_true (by first | (with_reducible assumption) | assumption)
                          have q614 : x10_2 < (t610.length : Int) := of_decide_eq_true (by first | (with_reducible assumption) | assumption)
                          obtain ⟨ad614, e614, hx614_0⟩ := Kd.at_int (Kd.R_reads' HO_8.out).2.2 x10_2 p614 q614
                          obtain rfl : ad613 = ad614 := (by injection e614)
                          replace p614 := eq_true p614
                          replace q614 := eq_true q614
                          go_wp2_with (first | (go_at_call 89; (with_reducible refine (avermentref07_Arith.calls a0 (rd t610 x9_1) (rd t610 x10_2) t615 true _ A12.out).mono ?_); rintro e w' ⟨rfl, ⟨nd, rfl⟩⟩; (try first | exact ⟨rfl, _, World.drewN_drewN _ _ _⟩ | exact ⟨rfl, _, Eq.trans (World.drewN_drewN _ _ _) (congrArg (World.drewN _) (Nat.add_assoc _ _ _))⟩); have p617 : 0 ≤ (x9_1 : Int) := of_decide_eq_true (by first | (with_reducible assumption) | assumption); have q617 : x9_1 < (t610.length : Int) := of_decide_eq_true (by first | (with_reducible assumption) | assumption); obtain ⟨ad617, e617, hx617_0⟩ := Kd.at_int (Kd.R_reads' HO_8.out).2.2 x9_1 p617 q617; obtain rfl : ad613 = ad617 := (by injection e617); replace p617 := eq_true p617; replace q617 := eq_true q617) | (go_at_call 98; (with_reducible refine (avermentref11_Has.calls a1 (rd t610 x9_1) true _ A14.out).mono ?_); rintro e w' ⟨rfl, ⟨nd, rfl⟩⟩; (try first | exact ⟨rfl, _, World.drewN_drewN _ _ _⟩ | exact ⟨rfl, _, Eq.trans (World.drewN_drewN _ _ _) (congrArg (World.drewN _) (Nat.add_assoc _ _ _))⟩); have p619 : 0 ≤ (x10_2 : Int) := of_decide_eq_true (by first | (with_reducible assumption) | assumption); have q619 : x10_2 < (t610.length : Int) := of_decide_eq_true (by first | (with_reducible assumption) | assumption); obtain ⟨ad619, e619, hx619_0⟩ := Kd.at_int (Kd.R_reads' HO_8.out).2.2 x10_2 p619 q619; obtain rfl : ad613 = ad619 := (by injection e619); replace p619 := eq_true p619; replace q619 := eq_true q619) | (go_at_call 98; (with_reducible refine (avermentref11_Has.calls a2 (rd t610 x10_2) true _ A16.out).mono ?_); rintro e w' ⟨rfl, ⟨nd, rfl⟩⟩; (try first | exact ⟨rfl, _, World.drewN_drewN _ _ _⟩ | exact ⟨rfl, _, Eq.trans (World.drewN_drewN _ _ _) (congrArg (World.drewN _) (Nat.add_assoc _ _ _))⟩)) | (go_at_call 99; (with_reducible refine (avermentref11_Of.calls t615 t621 _ A18.out).mono ?_); rintro e w' ⟨rfl, ⟨nd, rfl⟩⟩; (try first | exact ⟨rfl, _, World.drewN_drewN _ _ _⟩ | exact ⟨rfl, _, Eq.trans (World.drewN_drewN _ _ _) (congrArg (World.drewN _) (Nat.add_assoc _ _ _))⟩)))
                          repeat (go_quiet (first | (go_at_call 89; (with_reducible refine (avermentref07_Arith.calls a0 (rd t610 x9_1) (rd t610 x10_2) t615 true _ A12.out).mono ?_); rintro e w' ⟨rfl, ⟨nd, rfl⟩⟩; (try first | exact ⟨rfl, _, World.drewN_drewN _ _ _⟩ | exact ⟨rfl, _, Eq.trans (World.drewN_drewN _ _ _) (congrArg (World.drewN _) (Nat.add_assoc _ _ _))⟩); have p617 : 0 ≤ (x9_1 : Int) := of_decide_eq_true (by first | (with_reducible assumption) | assumption); have q617 : x9_1 < (t610.length : Int) := of_decide_eq_true (by first | (with_reducible assumption) | assumption); obtain ⟨ad617, e617, hx617_0⟩ := Kd.at_int (Kd.R_reads' HO_8.out).2.2 x9_1 p617 q617; obtain rfl : ad613 = ad617 := (by injection e617); replace p617 := eq_true p617; replace q617 := eq_true q617) | (go_at_call 98; (with_reducible refine (avermentref11_Has.calls a1 (rd t610 x9_1) true _ A14.out).mono ?_); rintro e w' ⟨rfl, ⟨nd, rfl⟩⟩; (try first | exact ⟨rfl, _, World.drewN_drewN _ _ _⟩ | exact ⟨rfl, _, Eq.trans (World.drewN_drewN _ _ _) (congrArg (World.drewN _) (Nat.add_assoc _ _ _))⟩); have p619 : 0 ≤ (x10_2 : Int) := of_decide_eq_true (by first | (with_reducible assumption) | assumption); have q619 : x10_2 < (t610.length : Int) := of_decide_eq_true (by first | (with_reducible assumption) | assumption); obtain ⟨ad619, e619, hx619_0⟩ := Kd.at_int (Kd.R_reads' HO_8.out).2.2 x10_2 p619 q619; obtain rfl : ad613 = ad619 := (by injection e619); replace p619 := eq_true p619; replace q619 := eq_true q619) | (go_at_call 98; (with_reducible refine (avermentref11_Has.calls a2 (rd t610 x10_2) true _ A16.out).mono ?_); rintro e w' ⟨rfl, ⟨nd, rfl⟩⟩; (try first | exact ⟨rfl, _, World.drewN_drewN _ _ _⟩ | exact ⟨rfl, _, Eq.trans (World.drewN_drewN _ _ _) (congrArg (World.drewN _) (Nat.add_assoc _ _ _))⟩)) | (go_at_call 99; (with_reducible refine (avermentref11_Of.calls t615 t621 _ A18.out).mono ?_); rintro e w' ⟨rfl, ⟨nd, rfl⟩⟩; (try first | exact ⟨rfl, _, World.drewN_drewN _ _ _⟩ | exact ⟨rfl, _, Eq.trans (World.drewN_drewN _ _ _) (congrArg (World.drewN _) (Nat.add_assoc _ _ _))⟩))); try go_wp2_with (first | (go_at_call 89; (with_reducible refine (avermentref07_Arith.calls a0 (rd t610 x9_1) (rd t610 x10_2) t615 true _ A12.out).mono ?_); rintro e w' ⟨rfl, ⟨nd, rfl⟩⟩; (try first | exact ⟨rfl, _, World.drewN_drewN _ _ _⟩ | exact ⟨rfl, _, Eq.trans (World.drewN_drewN _ _ _) (congrArg (World.drewN _) (Nat.add_assoc _ _ _))⟩); have p617 : 0 ≤ (x9_1 : Int) := of_decide_eq_true (by first | (with_reducible assumption) | assumption); have q617 : x9_1 < (t610.length : Int) := of_decide_eq_true (by first | (with_reducible assumption) | assumption); obtain ⟨ad617, e617, hx617_0⟩ := Kd.at_int (Kd.R_reads' HO_8.out).2.2 x9_1 p617 q617; obtain rfl : ad613 = ad617 := (by injection e617); replace p617 := eq_true p617; replace q617 := eq_true q617) | (go_at_call 98; (with_reducible refine (avermentref11_Has.calls a1 (rd t610 x9_1) true _ A14.out).mono ?_); rintro e w' ⟨rfl, ⟨nd, rfl⟩⟩; (try first | exact ⟨rfl, _, World.drewN_drewN _ _ _⟩ | exact ⟨rfl, _, Eq.trans (World.drewN_drewN _ _ _) (congrArg (World.drewN _) (Nat.add_assoc _ _ _))⟩); have p619 : 0 ≤ (x10_2 : Int) := of_decide_eq_true (by first | (with_reducible assumption) | assumption); have q619 : x10_2 < (t610.length : Int) := of_decide_eq_true (by first | (with_reducible assumption) | assumption); obtain ⟨ad619, e619, hx619_0⟩ := Kd.at_int (Kd.R_reads' HO_8.out).2.2 x10_2 p619 q619; obtain rfl : ad613 = ad619 := (by injection e619); replace p619 := eq_true p619; replace q619 := eq_true q619) | (go_at_call 98; (with_reducible refine (avermentref11_Has.calls a2 (rd t610 x10_2) true _ A16.out).mono ?_); rintro e w' ⟨rfl, ⟨nd, rfl⟩⟩; (try first | exact ⟨rfl, _, World.drewN_drewN _ _ _⟩ | exact ⟨rfl, _, Eq.trans (World.drewN_drewN _ _ _) (congrArg (World.drewN _) (Nat.add_assoc _ _ _))⟩)) | (go_at_call 99; (with_reducible refine (avermentref11_Of.calls t615 t621 _ A18.out).mono ?_); rintro e w' ⟨rfl, ⟨nd, rfl⟩⟩; (try first | exact ⟨rfl, _, World.drewN_drewN _ _ _⟩ | exact ⟨rfl, _, Eq.trans (World.drewN_drewN _ _ _) (congrArg (World.drewN _) (Nat.add_assoc _ _ _))⟩))))
                          go_roundg k2
                          case measure => have := HK1.out; have := HK2.out; omega
                          case rel => exact ⟨(Go.bits .or .i64 x7_2 t621), (wrap64 (x10_2 + 1)), (by first | rfl | (simp; done) | (simp [*]; done)), (by first | rfl | (simp; done) | (simp [*]; done)), H', ⟨by have := HK1.out; have := HK2.out; omega⟩, ⟨by (with_reducible repeat (first | apply Kd.R_alloc | apply Kd.R_drewN | apply Kd.R_drew)); exact HO_8.out⟩, ⟨by repeat (first | (with_reducible first | exact HB.out | apply below_alloc | apply pw_below_drewN | apply below_drew1) | exact HB.out)⟩⟩
                        · replace c17 := Bool.eq_false_iff.mpr c17
                          subst c17
                          have H1 : (avermentref11_Two.l1 k2 a0 a1 a2 x7_2 t610 x9_1 (wrap64 (x10_2 + 1))) = some r := by rw [if_neg (show ¬ (false = true) by decide)] at H; exact H
                          clear H
                          have H := H1
                          clear H1
                          have H' := Aside0.mk H
                          clear H
                          have p613 : 0 ≤ (x9_1 : Int) := of_decide_eq_true (by first | (with_reducible assumption) | assumption)
                          have q613 : x9_1 < (t610.length : Int) := of_decide_eq_true (by first | (with_reducible assumption) | assumption)
                          obtain ⟨ad613, e613, hx613_0⟩ := Kd.at_int (Kd.R_reads' HO_8.out).2.2 x9_1 p613 q613
                          cases e613
                          replace p613 := eq_true p613
                          replace q613 := eq_true q613
                          have p614 : 0 ≤ (x10_2 : Int) := of_decide_eq_true (by first | (with_reducible assumption) | assumption)
                          have q614 : x10_2 < (t610.length : Int) := of_decide_eq_true (by first | (with_reducible assumption) | assumption)
                          obtain ⟨ad614, e614, hx614_0⟩ := Kd.at_int (Kd.R_reads' HO_8.out).2.2 x10_2 p614 q614
                          obtain rfl : ad613 = ad614 := (by injection e614)
                          replace p614 := eq_true p614
                          replace q614 := eq_true q614
                          go_wp2_with (first | (go_at_call 89; (with_reducible refine (avermentref07_Arith.calls a0 (rd t610 x9_1) (rd t610 x10_2) t615 true _ A12.out).mono ?_); rintro e w' ⟨rfl, ⟨nd, rfl⟩⟩; (try first | exact ⟨rfl, _, World.drewN_drewN _ _ _⟩ | exact ⟨rfl, _, Eq.trans (World.drewN_drewN _ _ _) (congrArg (World.drewN _) (Nat.add_assoc _ _ _))⟩); have p617 : 0 ≤ (x9_1 : Int) := of_decide_eq_true (by first | (with_reducible assumption) | assumption); have q617 : x9_1 < (t610.length : Int) := of_decide_eq_true (by first | (with_reducible assumption) | assumption); obtain ⟨ad617, e617, hx617_0⟩ := Kd.at_int (Kd.R_reads' HO_8.out).2.2 x9_1 p617 q617; obtain rfl : ad613 = ad617 := (by injection e617); replace p617 := eq_true p617; replace q617 := eq_true q617) | (go_at_call 98; (with_reducible refine (avermentref11_Has.calls a1 (rd t610 x9_1) true _ A14.out).mono ?_); rintro e w' ⟨rfl, ⟨nd, rfl⟩⟩; (try first | exact ⟨rfl, _, World.drewN_drewN _ _ _⟩ | exact ⟨rfl, _, Eq.trans (World.drewN_drewN _ _ _) (congrArg (World.drewN _) (Nat.add_assoc _ _ _))⟩); have p619 : 0 ≤ (x10_2 : Int) := of_decide_eq_true (by first | (with_reducible assumption) | assumption); have q619 : x10_2 < (t610.length : Int) := of_decide_eq_true (by first | (with_reducible assumption) | assumption); obtain ⟨ad619, e619, hx619_0⟩ := Kd.at_int (Kd.R_reads' HO_8.out).2.2 x10_2 p619 q619; obtain rfl : ad613 = ad619 := (by injection e619); replace p619 := eq_true p619; replace q619 := eq_true q619) | (go_at_call 98; (with_reducible refine (avermentref11_Has.calls a2 (rd t610 x10_2) false _ A16.out).mono ?_); rintro e w' ⟨rfl, ⟨nd, rfl⟩⟩; (try first | exact ⟨rfl, _, World.drewN_drewN _ _ _⟩ | exact ⟨rfl, _, Eq.trans (World.drewN_drewN _ _ _) (congrArg (World.drewN _) (Nat.add_assoc _ _ _))⟩)))
                          repeat (go_quiet (first | (go_at_call 89; (with_reducible refine (avermentref07_Arith.calls a0 (rd t610 x9_1) (rd t610 x10_2) t615 true _ A12.out).mono ?_); rintro e w' ⟨rfl, ⟨nd, rfl⟩⟩; (try first | exact ⟨rfl, _, World.drewN_drewN _ _ _⟩ | exact ⟨rfl, _, Eq.trans (World.drewN_drewN _ _ _) (congrArg (World.drewN _) (Nat.add_assoc _ _ _))⟩); have p617 : 0 ≤ (x9_1 : Int) := of_decide_eq_true (by first | (with_reducible assumption) | assumption); have q617 : x9_1 < (t610.length : Int) := of_decide_eq_true (by first | (with_reducible assumption) | assumption); obtain ⟨ad617, e617, hx617_0⟩ := Kd.at_int (Kd.R_reads' HO_8.out).2.2 x9_1 p617 q617; obtain rfl : ad613 = ad617 := (by injection e617); replace p617 := eq_true p617; replace q617 := eq_true q617) | (go_at_call 98; (with_reducible refine (avermentref11_Has.calls a1 (rd t610 x9_1) true _ A14.out).mono ?_); rintro e w' ⟨rfl, ⟨nd, rfl⟩⟩; (try first | exact ⟨rfl, _, World.drewN_drewN _ _ _⟩ | exact ⟨rfl, _, Eq.trans (World.drewN_drewN _ _ _) (congrArg (World.drewN _) (Nat.add_assoc _ _ _))⟩); have p619 : 0 ≤ (x10_2 : Int) := of_decide_eq_true (by first | (with_reducible assumption) | assumption); have q619 : x10_2 < (t610.length : Int) := of_decide_eq_true (by first | (with_reducible assumption) | assumption); obtain ⟨ad619, e619, hx619_0⟩ := Kd.at_int (Kd.R_reads' HO_8.out).2.2 x10_2 p619 q619; obtain rfl : ad613 = ad619 := (by injection e619); replace p619 := eq_true p619; replace q619 := eq_true q619) | (go_at_call 98; (with_reducible refine (avermentref11_Has.calls a2 (rd t610 x10_2) false _ A16.out).mono ?_); rintro e w' ⟨rfl, ⟨nd, rfl⟩⟩; (try first | exact ⟨rfl, _, World.drewN_drewN _ _ _⟩ | exact ⟨rfl, _, Eq.trans (World.drewN_drewN _ _ _) (congrArg (World.drewN _) (Nat.add_assoc _ _ _))⟩))); try go_wp2_with (first | (go_at_call 89; (with_reducible refine (avermentref07_Arith.calls a0 (rd t610 x9_1) (rd t610 x10_2) t615 true _ A12.out).mono ?_); rintro e w' ⟨rfl, ⟨nd, rfl⟩⟩; (try first | exact ⟨rfl, _, World.drewN_drewN _ _ _⟩ | exact ⟨rfl, _, Eq.trans (World.drewN_drewN _ _ _) (congrArg (World.drewN _) (Nat.add_assoc _ _ _))⟩); have p617 : 0 ≤ (x9_1 : Int) := of_decide_eq_true (by first | (with_reducible assumption) | assumption); have q617 : x9_1 < (t610.length : Int) := of_decide_eq_true (by first | (with_reducible assumption) | assumption); obtain ⟨ad617, e617, hx617_0⟩ := Kd.at_int (Kd.R_reads' HO_8.out).2.2 x9_1 p617 q617; obtain rfl : ad613 = ad617 := (by injection e617); replace p617 := eq_true p617; replace q617 := eq_true q617) | (go_at_call 98; (with_reducible refine (avermentref11_Has.calls a1 (rd t610 x9_1) true _ A14.out).mono ?_); rintro e w' ⟨rfl, ⟨nd, rfl⟩⟩; (try first | exact ⟨rfl, _, World.drewN_drewN _ _ _⟩ | exact ⟨rfl, _, Eq.trans (World.drewN_drewN _ _ _) (congrArg (World.drewN _) (Nat.add_assoc _ _ _))⟩); have p619 : 0 ≤ (x10_2 : Int) := of_decide_eq_true (by first | (with_reducible assumption) | assumption); have q619 : x10_2 < (t610.length : Int) := of_decide_eq_true (by first | (with_reducible assumption) | assumption); obtain ⟨ad619, e619, hx619_0⟩ := Kd.at_int (Kd.R_reads' HO_8.out).2.2 x10_2 p619 q619; obtain rfl : ad613 = ad619 := (by injection e619); replace p619 := eq_true p619; replace q619 := eq_true q619) | (go_at_call 98; (with_reducible refine (avermentref11_Has.calls a2 (rd t610 x10_2) false _ A16.out).mono ?_); rintro e w' ⟨rfl, ⟨nd, rfl⟩⟩; (try first | exact ⟨rfl, _, World.drewN_drewN _ _ _⟩ | exact ⟨rfl, _, Eq.trans (World.drewN_drewN _ _ _) (congrArg (World.drewN _) (Nat.add_assoc _ _ _))⟩))))
                          go_roundg k2
                          case measure => have := HK1.out; have := HK2.out; omega
                          case rel => exact ⟨(x7_2), (wrap64 (x10_2 + 1)), (by first | rfl | (simp; done) | (simp [*]; done)), (by first | rfl | (simp; done) | (simp [*]; done)), H', ⟨by have := HK1.out; have := HK2.out; omega⟩, ⟨by (with_reducible repeat (first | apply Kd.R_alloc | apply Kd.R_drewN | apply Kd.R_drew)); exact HO_8.out⟩, ⟨by repeat (first | (with_reducible first | exact HB.out | apply below_alloc | apply pw_below_drewN | apply below_drew1) | exact HB.out)⟩⟩
                      · replace c15 := Bool.eq_false_iff.mpr c15
                        subst c15
                        have H1 : (avermentref11_Two.l1 k2 a0 a1 a2 x7_2 t610 x9_1 (wrap64 (x10_2 + 1))) = some r := by rw [if_neg (show ¬ (false = true) by decide)] at H; exact H
                        clear H
                        have H := H1
                        clear H1
                        have H' := Aside0.mk H
                        clear H
                        have p613 : 0 ≤ (x9_1 : Int) := of_decide_eq_true (by first | (with_reducible assumption) | assumption)
                        have q613 : x9_1 < (t610.length : Int) := of_decide_eq_true (by first | (with_reducible assumption) | assumption)
                        obtain ⟨ad613, e613, hx613_0⟩ := Kd.at_int (Kd.R_reads' HO_8.out).2.2 x9_1 p613 q613
                        cases e613
                        replace p613 := eq_true p613
                        replace q613 := eq_true q613
                        have p614 : 0 ≤ (x10_2 : Int) := of_decide_eq_true (by first | (with_reducible assumption) | assumption)
                        have q614 : x10_2 < (t610.length : Int) := of_decide_eq_true (by first | (with_reducible assumption) | assumption)
                        obtain ⟨ad614, e614, hx614_0⟩ := Kd.at_int (Kd.R_reads' HO_8.out).2.2 x10_2 p614 q614
                        obtain rfl : ad613 = ad614 := (by injection e614)
                        replace p614 := eq_true p614
                        replace q614 := eq_true q614
                        go_wp2_with (first | (go_at_call 89; (with_reducible refine (avermentref07_Arith.calls a0 (rd t610 x9_1) (rd t610 x10_2) t615 true _ A12.out).mono ?_); rintro e w' ⟨rfl, ⟨nd, rfl⟩⟩; (try first | exact ⟨rfl, _, World.drewN_drewN _ _ _⟩ | exact ⟨rfl, _, Eq.trans (World.drewN_drewN _ _ _) (congrArg (World.drewN _) (Nat.add_assoc _ _ _))⟩); have p617 : 0 ≤ (x9_1 : Int) := of_decide_eq_true (by first | (with_reducible assumption) | assumption); have q617 : x9_1 < (t610.length : Int) := of_decide_eq_true (by first | (with_reducible assumption) | assumption); obtain ⟨ad617, e617, hx617_0⟩ := Kd.at_int (Kd.R_reads' HO_8.out).2.2 x9_1 p617 q617; obtain rfl : ad613 = ad617 := (by injection e617); replace p617 := eq_true p617; replace q617 := eq_true q617) | (go_at_call 98; (with_reducible refine (avermentref11_Has.calls a1 (rd t610 x9_1) false _ A14.out).mono ?_); rintro e w' ⟨rfl, ⟨nd, rfl⟩⟩; (try first | exact ⟨rfl, _, World.drewN_drewN _ _ _⟩ | exact ⟨rfl, _, Eq.trans (World.drewN_drewN _ _ _) (congrArg (World.drewN _) (Nat.add_assoc _ _ _))⟩)))
                        repeat (go_quiet (first | (go_at_call 89; (with_reducible refine (avermentref07_Arith.calls a0 (rd t610 x9_1) (rd t610 x10_2) t615 true _ A12.out).mono ?_); rintro e w' ⟨rfl, ⟨nd, rfl⟩⟩; (try first | exact ⟨rfl, _, World.drewN_drewN _ _ _⟩ | exact ⟨rfl, _, Eq.trans (World.drewN_drewN _ _ _) (congrArg (World.drewN _) (Nat.add_assoc _ _ _))⟩); have p617 : 0 ≤ (x9_1 : Int) := of_decide_eq_true (by first | (with_reducible assumption) | assumption); have q617 : x9_1 < (t610.length : Int) := of_decide_eq_true (by first | (with_reducible assumption) | assumption); obtain ⟨ad617, e617, hx617_0⟩ := Kd.at_int (Kd.R_reads' HO_8.out).2.2 x9_1 p617 q617; obtain rfl : ad613 = ad617 := (by injection e617); replace p617 := eq_true p617; replace q617 := eq_true q617) | (go_at_call 98; (with_reducible refine (avermentref11_Has.calls a1 (rd t610 x9_1) false _ A14.out).mono ?_); rintro e w' ⟨rfl, ⟨nd, rfl⟩⟩; (try first | exact ⟨rfl, _, World.drewN_drewN _ _ _⟩ | exact ⟨rfl, _, Eq.trans (World.drewN_drewN _ _ _) (congrArg (World.drewN _) (Nat.add_assoc _ _ _))⟩))); try go_wp2_with (first | (go_at_call 89; (with_reducible refine (avermentref07_Arith.calls a0 (rd t610 x9_1) (rd t610 x10_2) t615 true _ A12.out).mono ?_); rintro e w' ⟨rfl, ⟨nd, rfl⟩⟩; (try first | exact ⟨rfl, _, World.drewN_drewN _ _ _⟩ | exact ⟨rfl, _, Eq.trans (World.drewN_drewN _ _ _) (congrArg (World.drewN _) (Nat.add_assoc _ _ _))⟩); have p617 : 0 ≤ (x9_1 : Int) := of_decide_eq_true (by first | (with_reducible assumption) | assumption); have q617 : x9_1 < (t610.length : Int) := of_decide_eq_true (by first | (with_reducible assumption) | assumption); obtain ⟨ad617, e617, hx617_0⟩ := Kd.at_int (Kd.R_reads' HO_8.out).2.2 x9_1 p617 q617; obtain rfl : ad613 = ad617 := (by injection e617); replace p617 := eq_true p617; replace q617 := eq_true q617) | (go_at_call 98; (with_reducible refine (avermentref11_Has.calls a1 (rd t610 x9_1) false _ A14.out).mono ?_); rintro e w' ⟨rfl, ⟨nd, rfl⟩⟩; (try first | exact ⟨rfl, _, World.drewN_drewN _ _ _⟩ | exact ⟨rfl, _, Eq.trans (World.drewN_drewN _ _ _) (congrArg (World.drewN _) (Nat.add_assoc _ _ _))⟩))))
                        go_roundg k2
                        case measure => have := HK1.out; have := HK2.out; omega
                        case rel => exact ⟨(x7_2), (wrap64 (x10_2 + 1)), (by first | rfl | (simp; done) | (simp [*]; done)), (by first | rfl | (simp; done) | (simp [*]; done)), H', ⟨by have := HK1.out; have := HK2.out; omega⟩, ⟨by (with_reducible repeat (first | apply Kd.R_alloc | apply Kd.R_drewN | apply Kd.R_drew)); exact HO_8.out⟩, ⟨by repeat (first | (with_reducible first | exact HB.out | apply below_alloc | apply pw_below_drewN | apply below_drew1) | exact HB.out)⟩⟩
                    · replace c13 := Bool.eq_false_iff.mpr c13
                      subst c13
                      have H1 : (avermentref11_Two.l1 k2 a0 a1 a2 x7_2 t610 x9_1 (wrap64 (x10_2 + 1))) = some r := by rw [if_neg (show ¬ (false = true) by decide)] at H; exact H
                      clear H
                      have H := H1
                      clear H1
                      have H' := Aside0.mk H
                      clear H
                      have p613 : 0 ≤ (x9_1 : Int) := of_decide_eq_true (by first | (with_reducible assumption) | assumption)
                      have q613 : x9_1 < (t610.length : Int) := of_decide_eq_true (by first | (with_reducible assumption) | assumption)
                      obtain ⟨ad613, e613, hx613_0⟩ := Kd.at_int (Kd.R_reads' HO_8.out).2.2 x9_1 p613 q613
                      cases e613
                      replace p613 := eq_true p613
                      replace q613 := eq_true q613
                      have p614 : 0 ≤ (x10_2 : Int) := of_decide_eq_true (by first | (with_reducible assumption) | assumption)
                      have q614 : x10_2 < (t610.length : Int) := of_decide_eq_true (by first | (with_reducible assumption) | assumption)
                      obtain ⟨ad614, e614, hx614_0⟩ := Kd.at_int (Kd.R_reads' HO_8.out).2.2 x10_2 p614 q614
                      obtain rfl : ad613 = ad614 := (by injection e614)
                      replace p614 := eq_true p614
                      replace q614 := eq_true q614
                      go_wp2_with (first | (go_at_call 89; (with_reducible refine (avermentref07_Arith.calls a0 (rd t610 x9_1) (rd t610 x10_2) t615 false _ A12.out).mono ?_); rintro e w' ⟨rfl, ⟨nd, rfl⟩⟩; (try first | exact ⟨rfl, _, World.drewN_drewN _ _ _⟩ | exact ⟨rfl, _, Eq.trans (World.drewN_drewN _ _ _) (congrArg (World.drewN _) (Nat.add_assoc _ _ _))⟩)))
                      repeat (go_quiet (first | (go_at_call 89; (with_reducible refine (avermentref07_Arith.calls a0 (rd t610 x9_1) (rd t610 x10_2) t615 false _ A12.out).mono ?_); rintro e w' ⟨rfl, ⟨nd, rfl⟩⟩; (try first | exact ⟨rfl, _, World.drewN_drewN _ _ _⟩ | exact ⟨rfl, _, Eq.trans (World.drewN_drewN _ _ _) (congrArg (World.drewN _) (Nat.add_assoc _ _ _))⟩))); try go_wp2_with (first | (go_at_call 89; (with_reducible refine (avermentref07_Arith.calls a0 (rd t610 x9_1) (rd t610 x10_2) t615 false _ A12.out).mono ?_); rintro e w' ⟨rfl, ⟨nd, rfl⟩⟩; (try first | exact ⟨rfl, _, World.drewN_drewN _ _ _⟩ | exact ⟨rfl, _, Eq.trans (World.drewN_drewN _ _ _) (congrArg (World.drewN _) (Nat.add_assoc _ _ _))⟩))))
                      go_roundg k2
                      case measure => have := HK1.out; have := HK2.out; omega
                      case rel => exact ⟨(x7_2), (wrap64 (x10_2 + 1)), (by first | rfl | (simp; done) | (simp [*]; done)), (by first | rfl | (simp; done) | (simp [*]; done)), H', ⟨by have := HK1.out; have := HK2.out; omega⟩, ⟨by (with_reducible repeat (first | apply Kd.R_alloc | apply Kd.R_drewN | apply Kd.R_drew)); exact HO_8.out⟩, ⟨by repeat (first | (with_reducible first | exact HB.out | apply below_alloc | apply pw_below_drewN | apply below_drew1) | exact HB.out)⟩⟩
                  · rw [if_neg c11] at H
                    exact absurd H (by simp)
                · rw [if_neg c10] at H
                  exact absurd H (by simp)
              · rw [if_neg c9] at H
                exact absurd H (by simp)
            · rw [if_neg c8] at H
              have c8b0 : decide (x10_2 < (t610.length : Int)) = false := decide_eq_false c8
              clear c8
              have H' := Aside0.mk H
              clear H
              go_wp2
              repeat (go_quiet (fail); try go_wp2)
              go_roundg k2
              case measure => have := HK1.out; have := HK2.out; omega
              case rel => exact ⟨(x7_2), (wrap64 (x9_1 + 1)), (by first | rfl | (simp; done) | (simp [*]; done)), (by first | rfl | (simp; done) | (simp [*]; done)), H', ⟨by have := HK1.out; have := HK2.out; omega⟩, ⟨by (with_reducible repeat (first | apply Kd.R_alloc | apply Kd.R_drewN | apply Kd.R_drew)); exact HO_8.out⟩, ⟨by repeat (first | (with_reducible first | exact HB.out | apply below_alloc | apply pw_below_drewN | apply below_drew1) | exact HB.out)⟩⟩
      · rw [if_neg c6] at H
        have c6b0 : decide (x9_1 < (t610.length : Int)) = false := decide_eq_false c6
        clear c6
        obtain rfl := Option.some.inj H
        obtain ⟨Ao19, co19, eo19⟩ := Kd.R_slice HO_8.out
        subst eo19
        go_wp2
        repeat (go_quiet (fail); try go_wp2)
        go_ret
        exact ⟨by first | rfl | (simp [errW_none, errW_some] <;> rfl) | (simp [*, errW_none, errW_some] <;> rfl), by repeat (first | (with_reducible first | exact HB.out | apply below_alloc | apply pw_below_drewN | apply below_drew1) | exact HB.out)⟩

-- NOT PRINTED: function 11 (avermentref12_Two)

end Go.Proofs.YtcgjfkaipbhpkaaGreat.PFactMakes
