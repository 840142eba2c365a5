-- Written by a program of this session: plain functions and their walks. Lean checks it.
import Derived.Test.YtiehdiohoehcpaaPR0
import Derived.Test.YtiehdiohoehcpaaPR2
import Derived.Test.YtiehdiohoehcpaaPR3
namespace Go.Proofs.Ytiehdiohoehcpaa.PR
open Go.RowKit Go.Proofs.YtiehdiohoehcpaaW.PrintWords Go.Proofs.YtiehdiohoehcpaaW.PrintLast Go.Proofs.YtiehdiohoehcpaaW.PrintMore
attribute [local go_sem] max2_int min2_int max_two min_two max_three min_three max_four min_four   -- for this text's walks alone
set_option linter.unusedVariables false
set_option linter.unusedSimpArgs false

/-! ### avermentref11_Two: function 35 -/
mutual
def avermentref11_Two.l0 : Nat → Int → Int → Int → Int → List Int → Int → Option (Int)
  | 0, _, _, _, _, _, _ => none
  | k + 1, x0, x1, x2, x7, x8, x9 => if x9 < (x8.length : Int) then (avermentref11_Two.l1 k x0 x1 x2 x7 x8 x9 0) else (some x7)
def avermentref11_Two.l1 : Nat → Int → Int → Int → Int → List Int → Int → Int → Option (Int)
  | 0, _, _, _, _, _, _, _ => none
  | k + 1, x0, x1, x2, x7, x8, x9, x10 => if x10 < (x8.length : Int) then (if 0 ≤ x9 then (if x9 < (x8.length : Int) then (if 0 ≤ x10 then ((avermentref07_Arith.f x0 (rd x8 x9) (rd x8 x10)).bind fun bt159 => (if bt159.2 = true then ((avermentref11_Has.f x1 (rd x8 x9)).bind fun t162 => (if t162 = true then ((avermentref11_Has.f x2 (rd x8 x10)).bind fun t164 => (if t164 = true then ((avermentref11_Of.f bt159.1).bind fun t165 => (avermentref11_Two.l1 k x0 x1 x2 (Go.bits .or .i64 x7 t165) x8 x9 (wrap64 (x10 + 1)))) else (avermentref11_Two.l1 k x0 x1 x2 x7 x8 x9 (wrap64 (x10 + 1))))) else (avermentref11_Two.l1 k x0 x1 x2 x7 x8 x9 (wrap64 (x10 + 1))))) else (avermentref11_Two.l1 k x0 x1 x2 x7 x8 x9 (wrap64 (x10 + 1))))) else (none)) else (none)) else (none)) else (avermentref11_Two.l0 k x0 x1 x2 x7 x8 (wrap64 (x9 + 1)))
end
def avermentref11_Two.f (k : Nat) (a0 : Int) (a1 : Int) (a2 : Int) : Option (Int) := (avermentref08_Nums.f).bind fun t154 => (avermentref11_Two.l0 k a0 a1 a2 0 t154 0)
theorem avermentref11_Two.mono_l : ∀ k, (∀ y0 y1 y2 y3 y4 y5, LeO (avermentref11_Two.l0 k y0 y1 y2 y3 y4 y5) (avermentref11_Two.l0 (k + 1) y0 y1 y2 y3 y4 y5)) ∧ (∀ y0 y1 y2 y3 y4 y5 y6, LeO (avermentref11_Two.l1 k y0 y1 y2 y3 y4 y5 y6) (avermentref11_Two.l1 (k + 1) y0 y1 y2 y3 y4 y5 y6))
  | 0 => ⟨fun _ _ _ _ _ _ r h => by simp [avermentref11_Two.l0] at h, fun _ _ _ _ _ _ _ r h => by simp [avermentref11_Two.l1] at h⟩
  | k + 1 => by
    obtain ⟨ih0, ih1⟩ := avermentref11_Two.mono_l k
    refine ⟨?_, ?_⟩
    · intro y0 y1 y2 y3 y4 y5
      unfold avermentref11_Two.l0
      repeat' first
      | (with_reducible exact ih0 _ _ _ _ _ _)
      | (with_reducible exact ih1 _ _ _ _ _ _ _)
      | (with_reducible exact LeO.refl _)
      | (with_reducible exact LeO.none _)
      | (with_reducible refine LeO.ite ?_ ?_)
      | (with_reducible refine LeO.bind ?_ (fun _ => ?_))
      | exact ih0 _ _ _ _ _ _
      | exact ih1 _ _ _ _ _ _ _
      | exact LeO.none _
      | refine LeO.ite ?_ ?_
      | refine LeO.bind ?_ (fun _ => ?_)
    · intro y0 y1 y2 y3 y4 y5 y6
      unfold avermentref11_Two.l1
      repeat' first
      | (with_reducible exact ih0 _ _ _ _ _ _)
      | (with_reducible exact ih1 _ _ _ _ _ _ _)
      | (with_reducible exact LeO.refl _)
      | (with_reducible exact LeO.none _)
      | (with_reducible refine LeO.ite ?_ ?_)
      | (with_reducible refine LeO.bind ?_ (fun _ => ?_))
      | exact ih0 _ _ _ _ _ _
      | exact ih1 _ _ _ _ _ _ _
      | exact LeO.none _
      | refine LeO.ite ?_ ?_
      | refine LeO.bind ?_ (fun _ => ?_)
theorem avermentref11_Two.mono : ∀ a0 a1 a2 k, LeO (avermentref11_Two.f k a0 a1 a2) (avermentref11_Two.f (k + 1) a0 a1 a2) := by
  intro a0 a1 a2 k
  obtain ⟨ih0, ih1⟩ := avermentref11_Two.mono_l k
  unfold avermentref11_Two.f
  repeat' first
      | (with_reducible exact ih0 _ _ _ _ _ _)
      | (with_reducible exact ih1 _ _ _ _ _ _ _)
      | (with_reducible exact LeO.refl _)
      | (with_reducible exact LeO.none _)
      | (with_reducible refine LeO.ite ?_ ?_)
      | (with_reducible refine LeO.bind ?_ (fun _ => ?_))
      | exact ih0 _ _ _ _ _ _
      | exact ih1 _ _ _ _ _ _ _
      | exact LeO.none _
      | refine LeO.ite ?_ ?_
      | refine LeO.bind ?_ (fun _ => ?_)
set_option maxHeartbeats 8000000 in
set_option maxRecDepth 100000 in
theorem avermentref11_Two.calls (k : Nat) (a0 : Int) (a1 : Int) (a2 : Int) (r : Int) (w : World) (h : avermentref11_Two.f k a0 a1 a2 = some r) :
    Calls Try.prog 35 #[.int .i64 a0, .int .i64 a1, .int .i64 a2] w fun e w' => e = .returned (.int .i64 r) ∧ Below w.heap.size w w' := by
  have HB := Aside0.mk (Below.refl w.heap.size w)
  have H : ((avermentref08_Nums.f).bind fun t154 => (avermentref11_Two.l0 k a0 a1 a2 0 t154 0)) = some r := h
  clear h
  replace H := Option.bind_eq_some_iff.mp H
  obtain ⟨t154, A40, H⟩ := H
  replace H : (avermentref11_Two.l0 k a0 a1 a2 0 t154 0) = some r := H
  have A4 := Aside0.mk A40
  clear A40
  have H' := Aside0.mk H
  clear H
  go_enter Try.func35, Try.ntmps35
  go_wp2_with (first | (go_at_call 39; (with_reducible refine (avermentref08_Nums.calls  t154 _ A4.out).mono ?_); rintro e w5 ⟨v155, rfl, ho0, hb⟩; have n0_ := Aside0.mk (Kd.R_lower ho0 (below_size (by repeat (first | (with_reducible first | exact HB.out | apply below_alloc | apply pw_below_drewN | apply below_drew1) | exact HB.out)))); have n1_ := Aside0.mk (below_step (by repeat (first | (with_reducible first | exact HB.out | apply below_alloc | apply pw_below_drewN | apply below_drew1) | exact HB.out)) hb); clear HB; have HO156 := n0_; have HB := n1_; clear n0_ n1_; (try clear hb); (try clear hb2); (try clear hk); (try clear hi); (try clear ho0)))
  repeat (go_quiet (first | (go_at_call 39; (with_reducible refine (avermentref08_Nums.calls  t154 _ A4.out).mono ?_); rintro e w5 ⟨v155, rfl, ho0, hb⟩; have n0_ := Aside0.mk (Kd.R_lower ho0 (below_size (by repeat (first | (with_reducible first | exact HB.out | apply below_alloc | apply pw_below_drewN | apply below_drew1) | exact HB.out)))); have n1_ := Aside0.mk (below_step (by repeat (first | (with_reducible first | exact HB.out | apply below_alloc | apply pw_below_drewN | apply below_drew1) | exact HB.out)) hb); clear HB; have HO156 := n0_; have HB := n1_; clear n0_ n1_; (try clear hb); (try clear hb2); (try clear hk); (try clear hi); (try clear ho0))); try go_wp2_with (first | (go_at_call 39; (with_reducible refine (avermentref08_Nums.calls  t154 _ A4.out).mono ?_); rintro e w5 ⟨v155, rfl, ho0, hb⟩; have n0_ := Aside0.mk (Kd.R_lower ho0 (below_size (by repeat (first | (with_reducible first | exact HB.out | apply below_alloc | apply pw_below_drewN | apply below_drew1) | exact HB.out)))); have n1_ := Aside0.mk (below_step (by repeat (first | (with_reducible first | exact HB.out | apply below_alloc | apply pw_below_drewN | apply below_drew1) | exact HB.out)) hb); clear HB; have HO156 := n0_; have HB := n1_; clear n0_ n1_; (try clear hb); (try clear hb2); (try clear hk); (try clear hi); (try clear ho0))))
  go_loopg [7, 9] k (fun kq v7 v9 w' => ∃ (x7_1 : Int) (x9_1 : Int), v7 = .int .i64 x7_1 ∧ v9 = .int .i64 x9_1 ∧ Aside0 (avermentref11_Two.l0 kq a0 a1 a2 x7_1 t154 x9_1 = some r) ∧ Aside0 (kq ≤ k) ∧ Aside0 (Kd.R (Kd.int .i64) 2 w' w.heap.size (fun _ => True) v155 t154) ∧ Aside0 (Below w.heap.size w w'))
  case atStart => exact ⟨(0), (0), (by first | rfl | (simp; done) | (simp [*]; done)), (by first | rfl | (simp; done) | (simp [*]; done)), H', ⟨Nat.le_refl _⟩, ⟨by (with_reducible repeat (first | apply Kd.R_alloc | apply Kd.R_drewN | apply Kd.R_drew)); exact HO156.out⟩, ⟨by repeat (first | (with_reducible first | exact HB.out | apply below_alloc | apply pw_below_drewN | apply below_drew1) | exact HB.out)⟩⟩
  case round =>
    clear H'
    try clear p2
    try clear c3
    obtain ⟨x7_1, x9_1, rfl, rfl, HA, HK1, HO_8, HB⟩ := hrel
    cases gk with
    | zero => exact absurd HA.out (by simp [avermentref11_Two.l0])
    | succ k1 =>
      have H := HA.out
      clear HA
      simp only [avermentref11_Two.l0] at H
      by_cases c6 : x9_1 < (t154.length : Int)
      · rw [if_pos c6] at H
        have c6b0 : decide (x9_1 < (t154.length : Int)) = true := decide_eq_true c6
        clear c6
        have H' := Aside0.mk H
        clear H
        obtain ⟨Ao7, co7, eo7⟩ := Kd.R_slice HO_8.out
        subst eo7
        go_wp2
        repeat (go_quiet (fail); try go_wp2)
        go_loopg [7, 10] k1 (fun kq v7 v10 w' => ∃ (x7_2 : Int) (x10_2 : Int), v7 = .int .i64 x7_2 ∧ v10 = .int .i64 x10_2 ∧ Aside0 (avermentref11_Two.l1 kq a0 a1 a2 x7_2 t154 x9_1 x10_2 = some r) ∧ Aside0 (kq ≤ k1) ∧ Aside0 (Kd.R (Kd.int .i64) 2 w' w.heap.size (fun _ => True) (.slice Ao7 t154.length co7) t154) ∧ Aside0 (Below w.heap.size w w'))
        case atStart => exact ⟨(x7_1), (0), (by first | rfl | (simp; done) | (simp [*]; done)), (by first | rfl | (simp; done) | (simp [*]; done)), H', ⟨Nat.le_refl _⟩, ⟨by (with_reducible repeat (first | apply Kd.R_alloc | apply Kd.R_drewN | apply Kd.R_drew)); exact HO_8.out⟩, ⟨by repeat (first | (with_reducible first | exact HB.out | apply below_alloc | apply pw_below_drewN | apply below_drew1) | exact HB.out)⟩⟩
        case round =>
          clear H'
          try clear p2
          try clear c3
          try clear c6
          try clear c6b0
          try clear p2
          obtain ⟨x7_2, x10_2, rfl, rfl, HA, HK2, HO_8, HB⟩ := hrel
          cases gk with
          | zero => exact absurd HA.out (by simp [avermentref11_Two.l1])
          | succ k2 =>
            have H := HA.out
            clear HA
            simp only [avermentref11_Two.l1] at H
            by_cases c8 : x10_2 < (t154.length : Int)
            · rw [if_pos c8] at H
              have c8b0 : decide (x10_2 < (t154.length : Int)) = true := decide_eq_true c8
              clear c8
              by_cases c9 : 0 ≤ x9_1
              · rw [if_pos c9] at H
                have c9b0 : decide (0 ≤ x9_1) = true := decide_eq_true c9
                clear c9
                by_cases c10 : x9_1 < (t154.length : Int)
                · rw [if_pos c10] at H
                  have c10b0 : decide (x9_1 < (t154.length : Int)) = true := decide_eq_true c10
                  clear c10
                  by_cases c11 : 0 ≤ x10_2
                  · rw [if_pos c11] at H
                    have c11b0 : decide (0 ≤ x10_2) = true := decide_eq_true c11
                    clear c11
                    replace H := Option.bind_eq_some_iff.mp H
                    obtain ⟨⟨t159, t160⟩, A120, H⟩ := H
                    replace H : (if t160 = true then ((avermentref11_Has.f a1 (rd t154 x9_1)).bind fun t162 => (if t162 = true then ((avermentref11_Has.f a2 (rd t154 x10_2)).bind fun t164 => (if t164 = true then ((avermentref11_Of.f t159).bind fun t165 => (avermentref11_Two.l1 k2 a0 a1 a2 (Go.bits .or .i64 x7_2 t165) t154 x9_1 (wrap64 (x10_2 + 1)))) else (avermentref11_Two.l1 k2 a0 a1 a2 x7_2 t154 x9_1 (wrap64 (x10_2 + 1))))) else (avermentref11_Two.l1 k2 a0 a1 a2 x7_2 t154 x9_1 (wrap64 (x10_2 + 1))))) else (avermentref11_Two.l1 k2 a0 a1 a2 x7_2 t154 x9_1 (wrap64 (x10_2 + 1)))) = some r := H
                    have A12 := Aside0.mk A120
                    clear A120
                    by_cases c13 : t160 = true
                    · subst c13
                      have H1 : ((avermentref11_Has.f a1 (rd t154 x9_1)).bind fun t162 => (if t162 = true then ((avermentref11_Has.f a2 (rd t154 x10_2)).bind fun t164 => (if t164 = true then ((avermentref11_Of.f t159).bind fun t165 => (avermentref11_Two.l1 k2 a0 a1 a2 (Go.bits .or .i64 x7_2 t165) t154 x9_1 (wrap64 (x10_2 + 1)))) else (avermentref11_Two.l1 k2 a0 a1 a2 x7_2 t154 x9_1 (wrap64 (x10_2 + 1))))) else (avermentref11_Two.l1 k2 a0 a1 a2 x7_2 t154 x9_1 (wrap64 (x10_2 + 1))))) = some r := by rw [if_pos rfl] at H; exact H
                      clear H
                      have H := H1
                      clear H1
                      replace H := Option.bind_eq_some_iff.mp H
                      obtain ⟨t162, A140, H⟩ := H
                      replace H : (if t162 = true then ((avermentref11_Has.f a2 (rd t154 x10_2)).bind fun t164 => (if t164 = true then ((avermentref11_Of.f t159).bind fun t165 => (avermentref11_Two.l1 k2 a0 a1 a2 (Go.bits .or .i64 x7_2 t165) t154 x9_1 (wrap64 (x10_2 + 1)))) else (avermentref11_Two.l1 k2 a0 a1 a2 x7_2 t154 x9_1 (wrap64 (x10_2 + 1))))) else (avermentref11_Two.l1 k2 a0 a1 a2 x7_2 t154 x9_1 (wrap64 (x10_2 + 1)))) = some r := H
                      have A14 := Aside0.mk A140
                      clear A140
                      by_cases c15 : t162 = true
                      · subst c15
                        have H1 : ((avermentref11_Has.f a2 (rd t154 x10_2)).bind fun t164 => (if t164 = true then ((avermentref11_Of.f t159).bind fun t165 => (avermentref11_Two.l1 k2 a0 a1 a2 (Go.bits .or .i64 x7_2 t165) t154 x9_1 (wrap64 (x10_2 + 1)))) else (avermentref11_Two.l1 k2 a0 a1 a2 x7_2 t154 x9_1 (wrap64 (x10_2 + 1))))) = some r := by rw [if_pos rfl] at H; exact H
                        clear H
                        have H := H1
                        clear H1
                        replace H := Option.bind_eq_some_iff.mp H
                        obtain ⟨t164, A160, H⟩ := H
                        replace H : (if t164 = true then ((avermentref11_Of.f t159).bind fun t165 => (avermentref11_Two.l1 k2 a0 a1 a2 (Go.bits .or .i64 x7_2 t165) t154 x9_1 (wrap64 (x10_2 + 1)))) else (avermentref11_Two.l1 k2 a0 a1 a2 x7_2 t154 x9_1 (wrap64 (x10_2 + 1)))) = some r := H
                        have A16 := Aside0.mk A160
                        clear A160
                        by_cases c17 : t164 = true
                        · subst c17
                          have H1 : ((avermentref11_Of.f t159).bind fun t165 => (avermentref11_Two.l1 k2 a0 a1 a2 (Go.bits .or .i64 x7_2 t165) t154 x9_1 (wrap64 (x10_2 + 1)))) = some r := by rw [if_pos rfl] at H; exact H
                          clear H
                          have H := H1
                          clear H1
                          replace H := Option.bind_eq_some_iff.mp H
                          obtain ⟨t165, A180, H⟩ := H
                          replace H : (avermentref11_Two.l1 k2 a0 a1 a2 (Go.bits .or .i64 x7_2 t165) t154 x9_1 (wrap64 (x10_2 + 1))) = some r := H
                          have A18 := Aside0.mk A180
                          clear A180
                          have H' := Aside0.mk H
                          clear H
                          have p157 : 0 ≤ (x9_1 : Int) := of_decide_eq_true (by first | (with_reducible assumption) | assumption)
                          have q157 : x9_1 < (t154.length : Int) := of_decide_eq_true (by first | (with_reducible assumption) | assumption)
                          obtain ⟨ad157, e157, hx157_0⟩ := Kd.at_int (Kd.R_reads' HO_8.out).2.2 x9_1 p157 q157
                          cases e157
                          replace p157 := eq_true p157
                          replace q157 := eq_true q157
                          have p158 : 0 ≤ (x10_2 : Int) := of_decide_eq_true (by first | (with_reducible assumption) | assumption)
                          have q158 : x10_2 < (t154.length : Int) := of_decide_eq_true (by first | (with_reducible assumption) | assumption)
                          obtain ⟨ad158, e158, hx158_0⟩ := Kd.at_int (Kd.R_reads' HO_8.out).2.2 x10_2 p158 q158
                          obtain rfl : ad157 = ad158 := (by injection e158)
                          replace p158 := eq_true p158
                          replace q158 := eq_true q158
                          go_wp2_with (first | (go_at_call 38; (with_reducible refine (avermentref07_Arith.calls a0 (rd t154 x9_1) (rd t154 x10_2) t159 true _ A12.out).mono ?_); rintro e w' ⟨rfl, ⟨nd, rfl⟩⟩; (try first | exact ⟨rfl, _, World.drewN_drewN _ _ _⟩ | exact ⟨rfl, _, Eq.trans (World.drewN_drewN _ _ _) (congrArg (World.drewN _) (Nat.add_assoc _ _ _))⟩); have p161 : 0 ≤ (x9_1 : Int) := of_decide_eq_true (by first | (with_reducible assumption) | assumption); have q161 : x9_1 < (t154.length : Int) := of_decide_eq_true (by first | (with_reducible assumption) | assumption); obtain ⟨ad161, e161, hx161_0⟩ := Kd.at_int (Kd.R_reads' HO_8.out).2.2 x9_1 p161 q161; obtain rfl : ad157 = ad161 := (by injection e161); replace p161 := eq_true p161; replace q161 := eq_true q161) | (go_at_call 28; (with_reducible refine (avermentref11_Has.calls a1 (rd t154 x9_1) true _ A14.out).mono ?_); rintro e w' ⟨rfl, ⟨nd, rfl⟩⟩; (try first | exact ⟨rfl, _, World.drewN_drewN _ _ _⟩ | exact ⟨rfl, _, Eq.trans (World.drewN_drewN _ _ _) (congrArg (World.drewN _) (Nat.add_assoc _ _ _))⟩); have p163 : 0 ≤ (x10_2 : Int) := of_decide_eq_true (by first | (with_reducible assumption) | assumption); have q163 : x10_2 < (t154.length : Int) := of_decide_eq_true (by first | (with_reducible assumption) | assumption); obtain ⟨ad163, e163, hx163_0⟩ := Kd.at_int (Kd.R_reads' HO_8.out).2.2 x10_2 p163 q163; obtain rfl : ad157 = ad163 := (by injection e163); replace p163 := eq_true p163; replace q163 := eq_true q163) | (go_at_call 28; (with_reducible refine (avermentref11_Has.calls a2 (rd t154 x10_2) true _ A16.out).mono ?_); rintro e w' ⟨rfl, ⟨nd, rfl⟩⟩; (try first | exact ⟨rfl, _, World.drewN_drewN _ _ _⟩ | exact ⟨rfl, _, Eq.trans (World.drewN_drewN _ _ _) (congrArg (World.drewN _) (Nat.add_assoc _ _ _))⟩)) | (go_at_call 26; (with_reducible refine (avermentref11_Of.calls t159 t165 _ A18.out).mono ?_); rintro e w' ⟨rfl, ⟨nd, rfl⟩⟩; (try first | exact ⟨rfl, _, World.drewN_drewN _ _ _⟩ | exact ⟨rfl, _, Eq.trans (World.drewN_drewN _ _ _) (congrArg (World.drewN _) (Nat.add_assoc _ _ _))⟩)))
                          repeat (go_quiet (first | (go_at_call 38; (with_reducible refine (avermentref07_Arith.calls a0 (rd t154 x9_1) (rd t154 x10_2) t159 true _ A12.out).mono ?_); rintro e w' ⟨rfl, ⟨nd, rfl⟩⟩; (try first | exact ⟨rfl, _, World.drewN_drewN _ _ _⟩ | exact ⟨rfl, _, Eq.trans (World.drewN_drewN _ _ _) (congrArg (World.drewN _) (Nat.add_assoc _ _ _))⟩); have p161 : 0 ≤ (x9_1 : Int) := of_decide_eq_true (by first | (with_reducible assumption) | assumption); have q161 : x9_1 < (t154.length : Int) := of_decide_eq_true (by first | (with_reducible assumption) | assumption); obtain ⟨ad161, e161, hx161_0⟩ := Kd.at_int (Kd.R_reads' HO_8.out).2.2 x9_1 p161 q161; obtain rfl : ad157 = ad161 := (by injection e161); replace p161 := eq_true p161; replace q161 := eq_true q161) | (go_at_call 28; (with_reducible refine (avermentref11_Has.calls a1 (rd t154 x9_1) true _ A14.out).mono ?_); rintro e w' ⟨rfl, ⟨nd, rfl⟩⟩; (try first | exact ⟨rfl, _, World.drewN_drewN _ _ _⟩ | exact ⟨rfl, _, Eq.trans (World.drewN_drewN _ _ _) (congrArg (World.drewN _) (Nat.add_assoc _ _ _))⟩); have p163 : 0 ≤ (x10_2 : Int) := of_decide_eq_true (by first | (with_reducible assumption) | assumption); have q163 : x10_2 < (t154.length : Int) := of_decide_eq_true (by first | (with_reducible assumption) | assumption); obtain ⟨ad163, e163, hx163_0⟩ := Kd.at_int (Kd.R_reads' HO_8.out).2.2 x10_2 p163 q163; obtain rfl : ad157 = ad163 := (by injection e163); replace p163 := eq_true p163; replace q163 := eq_true q163) | (go_at_call 28; (with_reducible refine (avermentref11_Has.calls a2 (rd t154 x10_2) true _ A16.out).mono ?_); rintro e w' ⟨rfl, ⟨nd, rfl⟩⟩; (try first | exact ⟨rfl, _, World.drewN_drewN _ _ _⟩ | exact ⟨rfl, _, Eq.trans (World.drewN_drewN _ _ _) (congrArg (World.drewN _) (Nat.add_assoc _ _ _))⟩)) | (go_at_call 26; (with_reducible refine (avermentref11_Of.calls t159 t165 _ A18.out).mono ?_); rintro e w' ⟨rfl, ⟨nd, rfl⟩⟩; (try first | exact ⟨rfl, _, World.drewN_drewN _ _ _⟩ | exact ⟨rfl, _, Eq.trans (World.drewN_drewN _ _ _) (congrArg (World.drewN _) (Nat.add_assoc _ _ _))⟩))); try go_wp2_with (first | (go_at_call 38; (with_reducible refine (avermentref07_Arith.calls a0 (rd t154 x9_1) (rd t154 x10_2) t159 true _ A12.out).mono ?_); rintro e w' ⟨rfl, ⟨nd, rfl⟩⟩; (try first | exact ⟨rfl, _, World.drewN_drewN _ _ _⟩ | exact ⟨rfl, _, Eq.trans (World.drewN_drewN _ _ _) (congrArg (World.drewN _) (Nat.add_assoc _ _ _))⟩); have p161 : 0 ≤ (x9_1 : Int) := of_decide_eq_true (by first | (with_reducible assumption) | assumption); have q161 : x9_1 < (t154.length : Int) := of_decide_eq_true (by first | (with_reducible assumption) | assumption); obtain ⟨ad161, e161, hx161_0⟩ := Kd.at_int (Kd.R_reads' HO_8.out).2.2 x9_1 p161 q161; obtain rfl : ad157 = ad161 := (by injection e161); replace p161 := eq_true p161; replace q161 := eq_true q161) | (go_at_call 28; (with_reducible refine (avermentref11_Has.calls a1 (rd t154 x9_1) true _ A14.out).mono ?_); rintro e w' ⟨rfl, ⟨nd, rfl⟩⟩; (try first | exact ⟨rfl, _, World.drewN_drewN _ _ _⟩ | exact ⟨rfl, _, Eq.trans (World.drewN_drewN _ _ _) (congrArg (World.drewN _) (Nat.add_assoc _ _ _))⟩); have p163 : 0 ≤ (x10_2 : Int) := of_decide_eq_true (by first | (with_reducible assumption) | assumption); have q163 : x10_2 < (t154.length : Int) := of_decide_eq_true (by first | (with_reducible assumption) | assumption); obtain ⟨ad163, e163, hx163_0⟩ := Kd.at_int (Kd.R_reads' HO_8.out).2.2 x10_2 p163 q163; obtain rfl : ad157 = ad163 := (by injection e163); replace p163 := eq_true p163; replace q163 := eq_true q163) | (go_at_call 28; (with_reducible refine (avermentref11_Has.calls a2 (rd t154 x10_2) true _ A16.out).mono ?_); rintro e w' ⟨rfl, ⟨nd, rfl⟩⟩; (try first | exact ⟨rfl, _, World.drewN_drewN _ _ _⟩ | exact ⟨rfl, _, Eq.trans (World.drewN_drewN _ _ _) (congrArg (World.drewN _) (Nat.add_assoc _ _ _))⟩)) | (go_at_call 26; (with_reducible refine (avermentref11_Of.calls t159 t165 _ A18.out).mono ?_); rintro e w' ⟨rfl, ⟨nd, rfl⟩⟩; (try first | exact ⟨rfl, _, World.drewN_drewN _ _ _⟩ | exact ⟨rfl, _, Eq.trans (World.drewN_drewN _ _ _) (congrArg (World.drewN _) (Nat.add_assoc _ _ _))⟩))))
                          go_roundg k2
                          case measure => have := HK1.out; have := HK2.out; omega
                          case rel => exact ⟨(Go.bits .or .i64 x7_2 t165), (wrap64 (x10_2 + 1)), (by first | rfl | (simp; done) | (simp [*]; done)), (by first | rfl | (simp; done) | (simp [*]; done)), H', ⟨by have := HK1.out; have := HK2.out; omega⟩, ⟨by (with_reducible repeat (first | apply Kd.R_alloc | apply Kd.R_drewN | apply Kd.R_drew)); exact HO_8.out⟩, ⟨by repeat (first | (with_reducible first | exact HB.out | apply below_alloc | apply pw_below_drewN | apply below_drew1) | exact HB.out)⟩⟩
                        · replace c17 := Bool.eq_false_iff.mpr c17
                          subst c17
                          have H1 : (avermentref11_Two.l1 k2 a0 a1 a2 x7_2 t154 x9_1 (wrap64 (x10_2 + 1))) = some r := by rw [if_neg (show ¬ (false = true) by decide)] at H; exact H
                          clear H
                          have H := H1
                          clear H1
                          have H' := Aside0.mk H
                          clear H
                          have p157 : 0 ≤ (x9_1 : Int) := of_decide_eq_true (by first | (with_reducible assumption) | assumption)
                          have q157 : x9_1 < (t154.length : Int) := of_decide_eq_true (by first | (with_reducible assumption) | assumption)
                          obtain ⟨ad157, e157, hx157_0⟩ := Kd.at_int (Kd.R_reads' HO_8.out).2.2 x9_1 p157 q157
                          cases e157
                          replace p157 := eq_true p157
                          replace q157 := eq_true q157
                          have p158 : 0 ≤ (x10_2 : Int) := of_decide_eq_true (by first | (with_reducible assumption) | assumption)
                          have q158 : x10_2 < (t154.length : Int) := of_decide_eq_true (by first | (with_reducible assumption) | assumption)
                          obtain ⟨ad158, e158, hx158_0⟩ := Kd.at_int (Kd.R_reads' HO_8.out).2.2 x10_2 p158 q158
                          obtain rfl : ad157 = ad158 := (by injection e158)
                          replace p158 := eq_true p158
                          replace q158 := eq_true q158
                          go_wp2_with (first | (go_at_call 38; (with_reducible refine (avermentref07_Arith.calls a0 (rd t154 x9_1) (rd t154 x10_2) t159 true _ A12.out).mono ?_); rintro e w' ⟨rfl, ⟨nd, rfl⟩⟩; (try first | exact ⟨rfl, _, World.drewN_drewN _ _ _⟩ | exact ⟨rfl, _, Eq.trans (World.drewN_drewN _ _ _) (congrArg (World.drewN _) (Nat.add_assoc _ _ _))⟩); have p161 : 0 ≤ (x9_1 : Int) := of_decide_eq_true (by first | (with_reducible assumption) | assumption); have q161 : x9_1 < (t154.length : Int) := of_decide_eq_true (by first | (with_reducible assumption) | assumption); obtain ⟨ad161, e161, hx161_0⟩ := Kd.at_int (Kd.R_reads' HO_8.out).2.2 x9_1 p161 q161; obtain rfl : ad157 = ad161 := (by injection e161); replace p161 := eq_true p161; replace q161 := eq_true q161) | (go_at_call 28; (with_reducible refine (avermentref11_Has.calls a1 (rd t154 x9_1) true _ A14.out).mono ?_); rintro e w' ⟨rfl, ⟨nd, rfl⟩⟩; (try first | exact ⟨rfl, _, World.drewN_drewN _ _ _⟩ | exact ⟨rfl, _, Eq.trans (World.drewN_drewN _ _ _) (congrArg (World.drewN _) (Nat.add_assoc _ _ _))⟩); have p163 : 0 ≤ (x10_2 : Int) := of_decide_eq_true (by first | (with_reducible assumption) | assumption); have q163 : x10_2 < (t154.length : Int) := of_decide_eq_true (by first | (with_reducible assumption) | assumption); obtain ⟨ad163, e163, hx163_0⟩ := Kd.at_int (Kd.R_reads' HO_8.out).2.2 x10_2 p163 q163; obtain rfl : ad157 = ad163 := (by injection e163); replace p163 := eq_true p163; replace q163 := eq_true q163) | (go_at_call 28; (with_reducible refine (avermentref11_Has.calls a2 (rd t154 x10_2) false _ A16.out).mono ?_); rintro e w' ⟨rfl, ⟨nd, rfl⟩⟩; (try first | exact ⟨rfl, _, World.drewN_drewN _ _ _⟩ | exact ⟨rfl, _, Eq.trans (World.drewN_drewN _ _ _) (congrArg (World.drewN _) (Nat.add_assoc _ _ _))⟩)))
                          repeat (go_quiet (first | (go_at_call 38; (with_reducible refine (avermentref07_Arith.calls a0 (rd t154 x9_1) (rd t154 x10_2) t159 true _ A12.out).mono ?_); rintro e w' ⟨rfl, ⟨nd, rfl⟩⟩; (try first | exact ⟨rfl, _, World.drewN_drewN _ _ _⟩ | exact ⟨rfl, _, Eq.trans (World.drewN_drewN _ _ _) (congrArg (World.drewN _) (Nat.add_assoc _ _ _))⟩); have p161 : 0 ≤ (x9_1 : Int) := of_decide_eq_true (by first | (with_reducible assumption) | assumption); have q161 : x9_1 < (t154.length : Int) := of_decide_eq_true (by first | (with_reducible assumption) | assumption); obtain ⟨ad161, e161, hx161_0⟩ := Kd.at_int (Kd.R_reads' HO_8.out).2.2 x9_1 p161 q161; obtain rfl : ad157 = ad161 := (by injection e161); replace p161 := eq_true p161; replace q161 := eq_true q161) | (go_at_call 28; (with_reducible refine (avermentref11_Has.calls a1 (rd t154 x9_1) true _ A14.out).mono ?_); rintro e w' ⟨rfl, ⟨nd, rfl⟩⟩; (try first | exact ⟨rfl, _, World.drewN_drewN _ _ _⟩ | exact ⟨rfl, _, Eq.trans (World.drewN_drewN _ _ _) (congrArg (World.drewN _) (Nat.add_assoc _ _ _))⟩); have p163 : 0 ≤ (x10_2 : Int) := of_decide_eq_true (by first | (with_reducible assumption) | assumption); have q163 : x10_2 < (t154.length : Int) := of_decide_eq_true (by first | (with_reducible assumption) | assumption); obtain ⟨ad163, e163, hx163_0⟩ := Kd.at_int (Kd.R_reads' HO_8.out).2.2 x10_2 p163 q163; obtain rfl : ad157 = ad163 := (by injection e163); replace p163 := eq_true p163; replace q163 := eq_true q163) | (go_at_call 28; (with_reducible refine (avermentref11_Has.calls a2 (rd t154 x10_2) false _ A16.out).mono ?_); rintro e w' ⟨rfl, ⟨nd, rfl⟩⟩; (try first | exact ⟨rfl, _, World.drewN_drewN _ _ _⟩ | exact ⟨rfl, _, Eq.trans (World.drewN_drewN _ _ _) (congrArg (World.drewN _) (Nat.add_assoc _ _ _))⟩))); try go_wp2_with (first | (go_at_call 38; (with_reducible refine (avermentref07_Arith.calls a0 (rd t154 x9_1) (rd t154 x10_2) t159 true _ A12.out).mono ?_); rintro e w' ⟨rfl, ⟨nd, rfl⟩⟩; (try first | exact ⟨rfl, _, World.drewN_drewN _ _ _⟩ | exact ⟨rfl, _, Eq.trans (World.drewN_drewN _ _ _) (congrArg (World.drewN _) (Nat.add_assoc _ _ _))⟩); have p161 : 0 ≤ (x9_1 : Int) := of_decide_eq_true (by first | (with_reducible assumption) | assumption); have q161 : x9_1 < (t154.length : Int) := of_decide_eq_true (by first | (with_reducible assumption) | assumption); obtain ⟨ad161, e161, hx161_0⟩ := Kd.at_int (Kd.R_reads' HO_8.out).2.2 x9_1 p161 q161; obtain rfl : ad157 = ad161 := (by injection e161); replace p161 := eq_true p161; replace q161 := eq_true q161) | (go_at_call 28; (with_reducible refine (avermentref11_Has.calls a1 (rd t154 x9_1) true _ A14.out).mono ?_); rintro e w' ⟨rfl, ⟨nd, rfl⟩⟩; (try first | exact ⟨rfl, _, World.drewN_drewN _ _ _⟩ | exact ⟨rfl, _, Eq.trans (World.drewN_drewN _ _ _) (congrArg (World.drewN _) (Nat.add_assoc _ _ _))⟩); have p163 : 0 ≤ (x10_2 : Int) := of_decide_eq_true (by first | (with_reducible assumption) | assumption); have q163 : x10_2 < (t154.length : Int) := of_decide_eq_true (by first | (with_reducible assumption) | assumption); obtain ⟨ad163, e163, hx163_0⟩ := Kd.at_int (Kd.R_reads' HO_8.out).2.2 x10_2 p163 q163; obtain rfl : ad157 = ad163 := (by injection e163); replace p163 := eq_true p163; replace q163 := eq_true q163) | (go_at_call 28; (with_reducible refine (avermentref11_Has.calls a2 (rd t154 x10_2) false _ A16.out).mono ?_); rintro e w' ⟨rfl, ⟨nd, rfl⟩⟩; (try first | exact ⟨rfl, _, World.drewN_drewN _ _ _⟩ | exact ⟨rfl, _, Eq.trans (World.drewN_drewN _ _ _) (congrArg (World.drewN _) (Nat.add_assoc _ _ _))⟩))))
                          go_roundg k2
                          case measure => have := HK1.out; have := HK2.out; omega
                          case rel => exact ⟨(x7_2), (wrap64 (x10_2 + 1)), (by first | rfl | (simp; done) | (simp [*]; done)), (by first | rfl | (simp; done) | (simp [*]; done)), H', ⟨by have := HK1.out; have := HK2.out; omega⟩, ⟨by (with_reducible repeat (first | apply Kd.R_alloc | apply Kd.R_drewN | apply Kd.R_drew)); exact HO_8.out⟩, ⟨by repeat (first | (with_reducible first | exact HB.out | apply below_alloc | apply pw_below_drewN | apply below_drew1) | exact HB.out)⟩⟩
                      · replace c15 := Bool.eq_false_iff.mpr c15
                        subst c15
                        have H1 : (avermentref11_Two.l1 k2 a0 a1 a2 x7_2 t154 x9_1 (wrap64 (x10_2 + 1))) = some r := by rw [if_neg (show ¬ (false = true) by decide)] at H; exact H
                        clear H
                        have H := H1
                        clear H1
                        have H' := Aside0.mk H
                        clear H
                        have p157 : 0 ≤ (x9_1 : Int) := of_decide_eq_true (by first | (with_reducible assumption) | assumption)
                        have q157 : x9_1 < (t154.length : Int) := of_decide_eq_true (by first | (with_reducible assumption) | assumption)
                        obtain ⟨ad157, e157, hx157_0⟩ := Kd.at_int (Kd.R_reads' HO_8.out).2.2 x9_1 p157 q157
                        cases e157
                        replace p157 := eq_true p157
                        replace q157 := eq_true q157
                        have p158 : 0 ≤ (x10_2 : Int) := of_decide_eq_true (by first | (with_reducible assumption) | assumption)
                        have q158 : x10_2 < (t154.length : Int) := of_decide_eq_true (by first | (with_reducible assumption) | assumption)
                        obtain ⟨ad158, e158, hx158_0⟩ := Kd.at_int (Kd.R_reads' HO_8.out).2.2 x10_2 p158 q158
                        obtain rfl : ad157 = ad158 := (by injection e158)
                        replace p158 := eq_true p158
                        replace q158 := eq_true q158
                        go_wp2_with (first | (go_at_call 38; (with_reducible refine (avermentref07_Arith.calls a0 (rd t154 x9_1) (rd t154 x10_2) t159 true _ A12.out).mono ?_); rintro e w' ⟨rfl, ⟨nd, rfl⟩⟩; (try first | exact ⟨rfl, _, World.drewN_drewN _ _ _⟩ | exact ⟨rfl, _, Eq.trans (World.drewN_drewN _ _ _) (congrArg (World.drewN _) (Nat.add_assoc _ _ _))⟩); have p161 : 0 ≤ (x9_1 : Int) := of_decide_eq_true (by first | (with_reducible assumption) | assumption); have q161 : x9_1 < (t154.length : Int) := of_decide_eq_true (by first | (with_reducible assumption) | assumption); obtain ⟨ad161, e161, hx161_0⟩ := Kd.at_int (Kd.R_reads' HO_8.out).2.2 x9_1 p161 q161; obtain rfl : ad157 = ad161 := (by injection e161); replace p161 := eq_true p161; replace q161 := eq_true q161) | (go_at_call 28; (with_reducible refine (avermentref11_Has.calls a1 (rd t154 x9_1) false _ A14.out).mono ?_); rintro e w' ⟨rfl, ⟨nd, rfl⟩⟩; (try first | exact ⟨rfl, _, World.drewN_drewN _ _ _⟩ | exact ⟨rfl, _, Eq.trans (World.drewN_drewN _ _ _) (congrArg (World.drewN _) (Nat.add_assoc _ _ _))⟩)))
                        repeat (go_quiet (first | (go_at_call 38; (with_reducible refine (avermentref07_Arith.calls a0 (rd t154 x9_1) (rd t154 x10_2) t159 true _ A12.out).mono ?_); rintro e w' ⟨rfl, ⟨nd, rfl⟩⟩; (try first | exact ⟨rfl, _, World.drewN_drewN _ _ _⟩ | exact ⟨rfl, _, Eq.trans (World.drewN_drewN _ _ _) (congrArg (World.drewN _) (Nat.add_assoc _ _ _))⟩); have p161 : 0 ≤ (x9_1 : Int) := of_decide_eq_true (by first | (with_reducible assumption) | assumption); have q161 : x9_1 < (t154.length : Int) := of_decide_eq_true (by first | (with_reducible assumption) | assumption); obtain ⟨ad161, e161, hx161_0⟩ := Kd.at_int (Kd.R_reads' HO_8.out).2.2 x9_1 p161 q161; obtain rfl : ad157 = ad161 := (by injection e161); replace p161 := eq_true p161; replace q161 := eq_true q161) | (go_at_call 28; (with_reducible refine (avermentref11_Has.calls a1 (rd t154 x9_1) false _ A14.out).mono ?_); rintro e w' ⟨rfl, ⟨nd, rfl⟩⟩; (try first | exact ⟨rfl, _, World.drewN_drewN _ _ _⟩ | exact ⟨rfl, _, Eq.trans (World.drewN_drewN _ _ _) (congrArg (World.drewN _) (Nat.add_assoc _ _ _))⟩))); try go_wp2_with (first | (go_at_call 38; (with_reducible refine (avermentref07_Arith.calls a0 (rd t154 x9_1) (rd t154 x10_2) t159 true _ A12.out).mono ?_); rintro e w' ⟨rfl, ⟨nd, rfl⟩⟩; (try first | exact ⟨rfl, _, World.drewN_drewN _ _ _⟩ | exact ⟨rfl, _, Eq.trans (World.drewN_drewN _ _ _) (congrArg (World.drewN _) (Nat.add_assoc _ _ _))⟩); have p161 : 0 ≤ (x9_1 : Int) := of_decide_eq_true (by first | (with_reducible assumption) | assumption); have q161 : x9_1 < (t154.length : Int) := of_decide_eq_true (by first | (with_reducible assumption) | assumption); obtain ⟨ad161, e161, hx161_0⟩ := Kd.at_int (Kd.R_reads' HO_8.out).2.2 x9_1 p161 q161; obtain rfl : ad157 = ad161 := (by injection e161); replace p161 := eq_true p161; replace q161 := eq_true q161) | (go_at_call 28; (with_reducible refine (avermentref11_Has.calls a1 (rd t154 x9_1) false _ A14.out).mono ?_); rintro e w' ⟨rfl, ⟨nd, rfl⟩⟩; (try first | exact ⟨rfl, _, World.drewN_drewN _ _ _⟩ | exact ⟨rfl, _, Eq.trans (World.drewN_drewN _ _ _) (congrArg (World.drewN _) (Nat.add_assoc _ _ _))⟩))))
                        go_roundg k2
                        case measure => have := HK1.out; have := HK2.out; omega
                        case rel => exact ⟨(x7_2), (wrap64 (x10_2 + 1)), (by first | rfl | (simp; done) | (simp [*]; done)), (by first | rfl | (simp; done) | (simp [*]; done)), H', ⟨by have := HK1.out; have := HK2.out; omega⟩, ⟨by (with_reducible repeat (first | apply Kd.R_alloc | apply Kd.R_drewN | apply Kd.R_drew)); exact HO_8.out⟩, ⟨by repeat (first | (with_reducible first | exact HB.out | apply below_alloc | apply pw_below_drewN | apply below_drew1) | exact HB.out)⟩⟩
                    · replace c13 := Bool.eq_false_iff.mpr c13
                      subst c13
                      have H1 : (avermentref11_Two.l1 k2 a0 a1 a2 x7_2 t154 x9_1 (wrap64 (x10_2 + 1))) = some r := by rw [if_neg (show ¬ (false = true) by decide)] at H; exact H
                      clear H
                      have H := H1
                      clear H1
                      have H' := Aside0.mk H
                      clear H
                      have p157 : 0 ≤ (x9_1 : Int) := of_decide_eq_true (by first | (with_reducible assumption) | assumption)
                      have q157 : x9_1 < (t154.length : Int) := of_decide_eq_true (by first | (with_reducible assumption) | assumption)
                      obtain ⟨ad157, e157, hx157_0⟩ := Kd.at_int (Kd.R_reads' HO_8.out).2.2 x9_1 p157 q157
                      cases e157
                      replace p157 := eq_true p157
                      replace q157 := eq_true q157
                      have p158 : 0 ≤ (x10_2 : Int) := of_decide_eq_true (by first | (with_reducible assumption) | assumption)
                      have q158 : x10_2 < (t154.length : Int) := of_decide_eq_true (by first | (with_reducible assumption) | assumption)
                      obtain ⟨ad158, e158, hx158_0⟩ := Kd.at_int (Kd.R_reads' HO_8.out).2.2 x10_2 p158 q158
                      obtain rfl : ad157 = ad158 := (by injection e158)
                      replace p158 := eq_true p158
                      replace q158 := eq_true q158
                      go_wp2_with (first | (go_at_call 38; (with_reducible refine (avermentref07_Arith.calls a0 (rd t154 x9_1) (rd t154 x10_2) t159 false _ A12.out).mono ?_); rintro e w' ⟨rfl, ⟨nd, rfl⟩⟩; (try first | exact ⟨rfl, _, World.drewN_drewN _ _ _⟩ | exact ⟨rfl, _, Eq.trans (World.drewN_drewN _ _ _) (congrArg (World.drewN _) (Nat.add_assoc _ _ _))⟩)))
                      repeat (go_quiet (first | (go_at_call 38; (with_reducible refine (avermentref07_Arith.calls a0 (rd t154 x9_1) (rd t154 x10_2) t159 false _ A12.out).mono ?_); rintro e w' ⟨rfl, ⟨nd, rfl⟩⟩; (try first | exact ⟨rfl, _, World.drewN_drewN _ _ _⟩ | exact ⟨rfl, _, Eq.trans (World.drewN_drewN _ _ _) (congrArg (World.drewN _) (Nat.add_assoc _ _ _))⟩))); try go_wp2_with (first | (go_at_call 38; (with_reducible refine (avermentref07_Arith.calls a0 (rd t154 x9_1) (rd t154 x10_2) t159 false _ A12.out).mono ?_); rintro e w' ⟨rfl, ⟨nd, rfl⟩⟩; (try first | exact ⟨rfl, _, World.drewN_drewN _ _ _⟩ | exact ⟨rfl, _, Eq.trans (World.drewN_drewN _ _ _) (congrArg (World.drewN _) (Nat.add_assoc _ _ _))⟩))))
                      go_roundg k2
                      case measure => have := HK1.out; have := HK2.out; omega
                      case rel => exact ⟨(x7_2), (wrap64 (x10_2 + 1)), (by first | rfl | (simp; done) | (simp [*]; done)), (by first | rfl | (simp; done) | (simp [*]; done)), H', ⟨by have := HK1.out; have := HK2.out; omega⟩, ⟨by (with_reducible repeat (first | apply Kd.R_alloc | apply Kd.R_drewN | apply Kd.R_drew)); exact HO_8.out⟩, ⟨by repeat (first | (with_reducible first | exact HB.out | apply below_alloc | apply pw_below_drewN | apply below_drew1) | exact HB.out)⟩⟩
                  · rw [if_neg c11] at H
                    exact absurd H (by simp)
                · rw [if_neg c10] at H
                  exact absurd H (by simp)
              · rw [if_neg c9] at H
                exact absurd H (by simp)
            · rw [if_neg c8] at H
              have c8b0 : decide (x10_2 < (t154.length : Int)) = false := decide_eq_false c8
              clear c8
              have H' := Aside0.mk H
              clear H
              go_wp2
              repeat (go_quiet (fail); try go_wp2)
              go_roundg k2
              case measure => have := HK1.out; have := HK2.out; omega
              case rel => exact ⟨(x7_2), (wrap64 (x9_1 + 1)), (by first | rfl | (simp; done) | (simp [*]; done)), (by first | rfl | (simp; done) | (simp [*]; done)), H', ⟨by have := HK1.out; have := HK2.out; omega⟩, ⟨by (with_reducible repeat (first | apply Kd.R_alloc | apply Kd.R_drewN | apply Kd.R_drew)); exact HO_8.out⟩, ⟨by repeat (first | (with_reducible first | exact HB.out | apply below_alloc | apply pw_below_drewN | apply below_drew1) | exact HB.out)⟩⟩
      · rw [if_neg c6] at H
        have c6b0 : decide (x9_1 < (t154.length : Int)) = false := decide_eq_false c6
        clear c6
        obtain rfl := Option.some.inj H
        obtain ⟨Ao19, co19, eo19⟩ := Kd.R_slice HO_8.out
        subst eo19
        go_wp2
        repeat (go_quiet (fail); try go_wp2)
        go_ret
        exact ⟨by first | rfl | (simp [errW_none, errW_some] <;> rfl) | (simp [*, errW_none, errW_some] <;> rfl), by repeat (first | (with_reducible first | exact HB.out | apply below_alloc | apply pw_below_drewN | apply below_drew1) | exact HB.out)⟩

/-! ### avermentref11_Branch: function 37 -/
def avermentref11_Branch.f (a0 : Int) (a1 : Bool) : Option (Int) := if a1 = true then (some (Go.bits .and .i64 a0 3)) else (some (Go.bits .and .i64 a0 1))
set_option maxHeartbeats 8000000 in
set_option maxRecDepth 100000 in
theorem avermentref11_Branch.calls (a0 : Int) (a1 : Bool) (r : Int) (w : World) (h : avermentref11_Branch.f a0 a1 = some r) :
    Calls Try.prog 37 #[.int .i64 a0, .bool a1] w fun e w' => e = .returned (.int .i64 r) ∧ Drawn0 w w' := by
  have H : (if a1 = true then (some (Go.bits .and .i64 a0 3)) else (some (Go.bits .and .i64 a0 1))) = some r := h
  clear h
  by_cases c3 : a1 = true
  · subst c3
    have H1 : (some (Go.bits .and .i64 a0 3)) = some r := by rw [if_pos rfl] at H; exact H
    clear H
    have H := H1
    clear H1
    obtain rfl := Option.some.inj H
    go_enter Try.func37, Try.ntmps37
    go_wp2
    go_ret
    exact ⟨by first | rfl | (simp; done) | (simp [*]; done), by repeat (first | exact Drawn0.refl _ | apply Drawn0.step)⟩
  · replace c3 := Bool.eq_false_iff.mpr c3
    subst c3
    have H1 : (some (Go.bits .and .i64 a0 1)) = some r := by rw [if_neg (show ¬ (false = true) by decide)] at H; exact H
    clear H
    have H := H1
    clear H1
    obtain rfl := Option.some.inj H
    go_enter Try.func37, Try.ntmps37
    go_wp2
    go_ret
    exact ⟨by first | rfl | (simp; done) | (simp [*]; done), by repeat (first | exact Drawn0.refl _ | apply Drawn0.step)⟩

/-! ### avermentlaw11_ParityMakes: function 5 -/
def avermentlaw11_ParityMakes.f (k : Nat) (a0 : Int) (a1 : Int) (a2 : Int) : Option (Bool) := (avermentlaw11_told.f k).bind fun t166 => (if t166 = true then ((parity_One.f a0 a1).bind fun t167 => ((avermentref11_One.f a0 a1).bind fun t168 => (if t167 = t168 then ((parity_Two.f k a0 a1 a2).bind fun t169 => ((avermentref11_Two.f k a0 a1 a2).bind fun t170 => (if t169 = t170 then ((parity_Branch.f a1 true).bind fun t171 => ((avermentref11_Branch.f a1 true).bind fun t172 => (if t171 = t172 then ((parity_Branch.f a1 false).bind fun t173 => ((avermentref11_Branch.f a1 false).bind fun t174 => (some (t173 == t174)))) else (some false)))) else (some false)))) else (some false)))) else (some false))
theorem avermentlaw11_ParityMakes.mono : ∀ a0 a1 a2 k, LeO (avermentlaw11_ParityMakes.f k a0 a1 a2) (avermentlaw11_ParityMakes.f (k + 1) a0 a1 a2) := by
  intro a0 a1 a2 k
  unfold avermentlaw11_ParityMakes.f
  repeat' first
      | (with_reducible exact avermentlaw11_told.mono _)
      | (with_reducible exact avermentref11_Two.mono _ _ _ _)
      | (with_reducible exact parity_Two.mono _ _ _ _)
      | (with_reducible exact LeO.refl _)
      | (with_reducible exact LeO.none _)
      | (with_reducible refine LeO.ite ?_ ?_)
      | (with_reducible refine LeO.bind ?_ (fun _ => ?_))
      | exact avermentlaw11_told.mono _
      | exact avermentref11_Two.mono _ _ _ _
      | exact parity_Two.mono _ _ _ _
      | exact LeO.none _
      | refine LeO.ite ?_ ?_
      | refine LeO.bind ?_ (fun _ => ?_)
set_option maxHeartbeats 8000000 in
set_option maxRecDepth 100000 in
theorem avermentlaw11_ParityMakes.calls (k : Nat) (a0 : Int) (a1 : Int) (a2 : Int) (r : Bool) (w : World) (h : avermentlaw11_ParityMakes.f k a0 a1 a2 = some r) :
    Calls Try.prog 5 #[.int .i64 a0, .int .i64 a1, .int .i64 a2] w fun e w' => e = .returned (.bool r) ∧ Below w.heap.size w w' := by
  have HB := Aside0.mk (Below.refl w.heap.size w)
  have H : ((avermentlaw11_told.f k).bind fun t166 => (if t166 = true then ((parity_One.f a0 a1).bind fun t167 => ((avermentref11_One.f a0 a1).bind fun t168 => (if t167 = t168 then ((parity_Two.f k a0 a1 a2).bind fun t169 => ((avermentref11_Two.f k a0 a1 a2).bind fun t170 => (if t169 = t170 then ((parity_Branch.f a1 true).bind fun t171 => ((avermentref11_Branch.f a1 true).bind fun t172 => (if t171 = t172 then ((parity_Branch.f a1 false).bind fun t173 => ((avermentref11_Branch.f a1 false).bind fun t174 => (some (t173 == t174)))) else (some false)))) else (some false)))) else (some false)))) else (some false))) = some r := h
  clear h
  replace H := Option.bind_eq_some_iff.mp H
  obtain ⟨t166, A40, H⟩ := H
  replace H : (if t166 = true then ((parity_One.f a0 a1).bind fun t167 => ((avermentref11_One.f a0 a1).bind fun t168 => (if t167 = t168 then ((parity_Two.f k a0 a1 a2).bind fun t169 => ((avermentref11_Two.f k a0 a1 a2).bind fun t170 => (if t169 = t170 then ((parity_Branch.f a1 true).bind fun t171 => ((avermentref11_Branch.f a1 true).bind fun t172 => (if t171 = t172 then ((parity_Branch.f a1 false).bind fun t173 => ((avermentref11_Branch.f a1 false).bind fun t174 => (some (t173 == t174)))) else (some false)))) else (some false)))) else (some false)))) else (some false)) = some r := H
  have A4 := Aside0.mk A40
  clear A40
  by_cases c5 : t166 = true
  · subst c5
    have H1 : ((parity_One.f a0 a1).bind fun t167 => ((avermentref11_One.f a0 a1).bind fun t168 => (if t167 = t168 then ((parity_Two.f k a0 a1 a2).bind fun t169 => ((avermentref11_Two.f k a0 a1 a2).bind fun t170 => (if t169 = t170 then ((parity_Branch.f a1 true).bind fun t171 => ((avermentref11_Branch.f a1 true).bind fun t172 => (if t171 = t172 then ((parity_Branch.f a1 false).bind fun t173 => ((avermentref11_Branch.f a1 false).bind fun t174 => (some (t173 == t174)))) else (some false)))) else (some false)))) else (some false)))) = some r := by rw [if_pos rfl] at H; exact H
    clear H
    have H := H1
    clear H1
    replace H := Option.bind_eq_some_iff.mp H
    obtain ⟨t167, A60, H⟩ := H
    replace H : ((avermentref11_One.f a0 a1).bind fun t168 => (if t167 = t168 then ((parity_Two.f k a0 a1 a2).bind fun t169 => ((avermentref11_Two.f k a0 a1 a2).bind fun t170 => (if t169 = t170 then ((parity_Branch.f a1 true).bind fun t171 => ((avermentref11_Branch.f a1 true).bind fun t172 => (if t171 = t172 then ((parity_Branch.f a1 false).bind fun t173 => ((avermentref11_Branch.f a1 false).bind fun t174 => (some (t173 == t174)))) else (some false)))) else (some false)))) else (some false))) = some r := H
    have A6 := Aside0.mk A60
    clear A60
    replace H := Option.bind_eq_some_iff.mp H
    obtain ⟨t168, A70, H⟩ := H
    replace H : (if t167 = t168 then ((parity_Two.f k a0 a1 a2).bind fun t169 => ((avermentref11_Two.f k a0 a1 a2).bind fun t170 => (if t169 = t170 then ((parity_Branch.f a1 true).bind fun t171 => ((avermentref11_Branch.f a1 true).bind fun t172 => (if t171 = t172 then ((parity_Branch.f a1 false).bind fun t173 => ((avermentref11_Branch.f a1 false).bind fun t174 => (some (t173 == t174)))) else (some false)))) else (some false)))) else (some false)) = some r := H
    have A7 := Aside0.mk A70
    clear A70
    by_cases c8 : t167 = t168
    · rw [if_pos c8] at H
      have c8b0 : (t167 == t168) = true := beq_iff_eq.mpr c8
      have c8b1 : (t167 != t168) = false := bne_eq_false_iff_eq.mpr c8
      clear c8
      replace H := Option.bind_eq_some_iff.mp H
      obtain ⟨t169, A90, H⟩ := H
      replace H : ((avermentref11_Two.f k a0 a1 a2).bind fun t170 => (if t169 = t170 then ((parity_Branch.f a1 true).bind fun t171 => ((avermentref11_Branch.f a1 true).bind fun t172 => (if t171 = t172 then ((parity_Branch.f a1 false).bind fun t173 => ((avermentref11_Branch.f a1 false).bind fun t174 => (some (t173 == t174)))) else (some false)))) else (some false))) = some r := H
      have A9 := Aside0.mk A90
      clear A90
      replace H := Option.bind_eq_some_iff.mp H
      obtain ⟨t170, A100, H⟩ := H
      replace H : (if t169 = t170 then ((parity_Branch.f a1 true).bind fun t171 => ((avermentref11_Branch.f a1 true).bind fun t172 => (if t171 = t172 then ((parity_Branch.f a1 false).bind fun t173 => ((avermentref11_Branch.f a1 false).bind fun t174 => (some (t173 == t174)))) else (some false)))) else (some false)) = some r := H
      have A10 := Aside0.mk A100
      clear A100
      by_cases c11 : t169 = t170
      · rw [if_pos c11] at H
        have c11b0 : (t169 == t170) = true := beq_iff_eq.mpr c11
        have c11b1 : (t169 != t170) = false := bne_eq_false_iff_eq.mpr c11
        clear c11
        replace H := Option.bind_eq_some_iff.mp H
        obtain ⟨t171, A120, H⟩ := H
        replace H : ((avermentref11_Branch.f a1 true).bind fun t172 => (if t171 = t172 then ((parity_Branch.f a1 false).bind fun t173 => ((avermentref11_Branch.f a1 false).bind fun t174 => (some (t173 == t174)))) else (some false))) = some r := H
        have A12 := Aside0.mk A120
        clear A120
        replace H := Option.bind_eq_some_iff.mp H
        obtain ⟨t172, A130, H⟩ := H
        replace H : (if t171 = t172 then ((parity_Branch.f a1 false).bind fun t173 => ((avermentref11_Branch.f a1 false).bind fun t174 => (some (t173 == t174)))) else (some false)) = some r := H
        have A13 := Aside0.mk A130
        clear A130
        by_cases c14 : t171 = t172
        · rw [if_pos c14] at H
          have c14b0 : (t171 == t172) = true := beq_iff_eq.mpr c14
          have c14b1 : (t171 != t172) = false := bne_eq_false_iff_eq.mpr c14
          clear c14
          replace H := Option.bind_eq_some_iff.mp H
          obtain ⟨t173, A150, H⟩ := H
          replace H : ((avermentref11_Branch.f a1 false).bind fun t174 => (some (t173 == t174))) = some r := H
          have A15 := Aside0.mk A150
          clear A150
          replace H := Option.bind_eq_some_iff.mp H
          obtain ⟨t174, A160, H⟩ := H
          replace H : (some (t173 == t174)) = some r := H
          have A16 := Aside0.mk A160
          clear A160
          obtain rfl := Option.some.inj H
          go_enter Try.func5, Try.ntmps5
          go_wp2_with (first | ((with_reducible refine gate_callee (f := 23) rfl ?_); refine goesL_ (some 7) rfl rfl Try.func23 (by kernel_rfl) rfl #[] rfl (by (try simp only [List.map_toArray, List.map_cons, List.map_nil]); first | done | rfl | (simp only [List.length_drop, List.length_take]; rfl)) ?_; (with_reducible refine (avermentlaw11_told.calls k  true _ A4.out).mono ?_); rintro e w' ⟨rfl, ⟨nd, rfl⟩⟩; refine ⟨_, rfl, ?_⟩) | (go_at_call 32; (with_reducible refine (parity_One.calls a0 a1 t167 _ A6.out).mono ?_); rintro e w' ⟨rfl, ⟨nd, rfl⟩⟩) | (go_at_call 33; (with_reducible refine (avermentref11_One.calls a0 a1 t168 _ A7.out).mono ?_); rintro e w' ⟨rfl, ⟨nd, rfl⟩⟩) | (go_at_call 34; (with_reducible refine (parity_Two.calls k a0 a1 a2 t169 _ A9.out).mono ?_); rintro e w' ⟨rfl, ⟨nd, rfl⟩⟩) | (go_at_call 35; (with_reducible refine (avermentref11_Two.calls k a0 a1 a2 t170 _ A10.out).mono ?_); rintro e w17 ⟨rfl, hb⟩; have n0_ := Aside0.mk (below_step (by repeat (first | (with_reducible first | exact HB.out | apply below_alloc | apply pw_below_drewN | apply below_drew1) | exact HB.out)) hb); clear HB; have HB := n0_; clear n0_; (try clear hb); (try clear hb2); (try clear hk); (try clear hi)) | (go_at_call 36; (with_reducible refine (parity_Branch.calls a1 true t171 _ A12.out).mono ?_); rintro e w' ⟨rfl, ⟨nd, rfl⟩⟩) | (go_at_call 37; (with_reducible refine (avermentref11_Branch.calls a1 true t172 _ A13.out).mono ?_); rintro e w' ⟨rfl, ⟨nd, rfl⟩⟩) | (go_at_call 36; (with_reducible refine (parity_Branch.calls a1 false t173 _ A15.out).mono ?_); rintro e w' ⟨rfl, ⟨nd, rfl⟩⟩) | (go_at_call 37; (with_reducible refine (avermentref11_Branch.calls a1 false t174 _ A16.out).mono ?_); rintro e w' ⟨rfl, ⟨nd, rfl⟩⟩))
          go_ret
          exact ⟨by first | rfl | (simp [errW_none, errW_some] <;> rfl) | (simp [*, errW_none, errW_some] <;> rfl), by repeat (first | (with_reducible first | exact HB.out | apply below_alloc | apply pw_below_drewN | apply below_drew1) | exact HB.out)⟩
        · rw [if_neg c14] at H
          have c14b0 : (t171 == t172) = false := beq_eq_false_iff_ne.mpr c14
          have c14b1 : (t171 != t172) = true := bne_iff_ne.mpr c14
          obtain rfl := Option.some.inj H
          go_enter Try.func5, Try.ntmps5
          go_wp2_with (first | ((with_reducible refine gate_callee (f := 23) rfl ?_); refine goesL_ (some 7) rfl rfl Try.func23 (by kernel_rfl) rfl #[] rfl (by (try simp only [List.map_toArray, List.map_cons, List.map_nil]); first | done | rfl | (simp only [List.length_drop, List.length_take]; rfl)) ?_; (with_reducible refine (avermentlaw11_told.calls k  true _ A4.out).mono ?_); rintro e w' ⟨rfl, ⟨nd, rfl⟩⟩; refine ⟨_, rfl, ?_⟩) | (go_at_call 32; (with_reducible refine (parity_One.calls a0 a1 t167 _ A6.out).mono ?_); rintro e w' ⟨rfl, ⟨nd, rfl⟩⟩) | (go_at_call 33; (with_reducible refine (avermentref11_One.calls a0 a1 t168 _ A7.out).mono ?_); rintro e w' ⟨rfl, ⟨nd, rfl⟩⟩) | (go_at_call 34; (with_reducible refine (parity_Two.calls k a0 a1 a2 t169 _ A9.out).mono ?_); rintro e w' ⟨rfl, ⟨nd, rfl⟩⟩) | (go_at_call 35; (with_reducible refine (avermentref11_Two.calls k a0 a1 a2 t170 _ A10.out).mono ?_); rintro e w18 ⟨rfl, hb⟩; have n0_ := Aside0.mk (below_step (by repeat (first | (with_reducible first | exact HB.out | apply below_alloc | apply pw_below_drewN | apply below_drew1) | exact HB.out)) hb); clear HB; have HB := n0_; clear n0_; (try clear hb); (try clear hb2); (try clear hk); (try clear hi)) | (go_at_call 36; (with_reducible refine (parity_Branch.calls a1 true t171 _ A12.out).mono ?_); rintro e w' ⟨rfl, ⟨nd, rfl⟩⟩) | (go_at_call 37; (with_reducible refine (avermentref11_Branch.calls a1 true t172 _ A13.out).mono ?_); rintro e w' ⟨rfl, ⟨nd, rfl⟩⟩))
          go_ret
          exact ⟨by first | rfl | (simp [errW_none, errW_some] <;> rfl) | (simp [*, errW_none, errW_some] <;> rfl), by repeat (first | (with_reducible first | exact HB.out | apply below_alloc | apply pw_below_drewN | apply below_drew1) | exact HB.out)⟩
      · rw [if_neg c11] at H
        have c11b0 : (t169 == t170) = false := beq_eq_false_iff_ne.mpr c11
        have c11b1 : (t169 != t170) = true := bne_iff_ne.mpr c11
        obtain rfl := Option.some.inj H
        go_enter Try.func5, Try.ntmps5
        go_wp2_with (first | ((with_reducible refine gate_callee (f := 23) rfl ?_); refine goesL_ (some 7) rfl rfl Try.func23 (by kernel_rfl) rfl #[] rfl (by (try simp only [List.map_toArray, List.map_cons, List.map_nil]); first | done | rfl | (simp only [List.length_drop, List.length_take]; rfl)) ?_; (with_reducible refine (avermentlaw11_told.calls k  true _ A4.out).mono ?_); rintro e w' ⟨rfl, ⟨nd, rfl⟩⟩; refine ⟨_, rfl, ?_⟩) | (go_at_call 32; (with_reducible refine (parity_One.calls a0 a1 t167 _ A6.out).mono ?_); rintro e w' ⟨rfl, ⟨nd, rfl⟩⟩) | (go_at_call 33; (with_reducible refine (avermentref11_One.calls a0 a1 t168 _ A7.out).mono ?_); rintro e w' ⟨rfl, ⟨nd, rfl⟩⟩) | (go_at_call 34; (with_reducible refine (parity_Two.calls k a0 a1 a2 t169 _ A9.out).mono ?_); rintro e w' ⟨rfl, ⟨nd, rfl⟩⟩) | (go_at_call 35; (with_reducible refine (avermentref11_Two.calls k a0 a1 a2 t170 _ A10.out).mono ?_); rintro e w19 ⟨rfl, hb⟩; have n0_ := Aside0.mk (below_step (by repeat (first | (with_reducible first | exact HB.out | apply below_alloc | apply pw_below_drewN | apply below_drew1) | exact HB.out)) hb); clear HB; have HB := n0_; clear n0_; (try clear hb); (try clear hb2); (try clear hk); (try clear hi)))
        go_ret
        exact ⟨by first | rfl | (simp [errW_none, errW_some] <;> rfl) | (simp [*, errW_none, errW_some] <;> rfl), by repeat (first | (with_reducible first | exact HB.out | apply below_alloc | apply pw_below_drewN | apply below_drew1) | exact HB.out)⟩
    · rw [if_neg c8] at H
      have c8b0 : (t167 == t168) = false := beq_eq_false_iff_ne.mpr c8
      have c8b1 : (t167 != t168) = true := bne_iff_ne.mpr c8
      obtain rfl := Option.some.inj H
      go_enter Try.func5, Try.ntmps5
      go_wp2_with (first | ((with_reducible refine gate_callee (f := 23) rfl ?_); refine goesL_ (some 7) rfl rfl Try.func23 (by kernel_rfl) rfl #[] rfl (by (try simp only [List.map_toArray, List.map_cons, List.map_nil]); first | done | rfl | (simp only [List.length_drop, List.length_take]; rfl)) ?_; (with_reducible refine (avermentlaw11_told.calls k  true _ A4.out).mono ?_); rintro e w' ⟨rfl, ⟨nd, rfl⟩⟩; refine ⟨_, rfl, ?_⟩) | (go_at_call 32; (with_reducible refine (parity_One.calls a0 a1 t167 _ A6.out).mono ?_); rintro e w' ⟨rfl, ⟨nd, rfl⟩⟩) | (go_at_call 33; (with_reducible refine (avermentref11_One.calls a0 a1 t168 _ A7.out).mono ?_); rintro e w' ⟨rfl, ⟨nd, rfl⟩⟩))
      go_ret
      exact ⟨by first | rfl | (simp [errW_none, errW_some] <;> rfl) | (simp [*, errW_none, errW_some] <;> rfl), by repeat (first | (with_reducible first | exact HB.out | apply below_alloc | apply pw_below_drewN | apply below_drew1) | exact HB.out)⟩
  · replace c5 := Bool.eq_false_iff.mpr c5
    subst c5
    have H1 : (some false) = some r := by rw [if_neg (show ¬ (false = true) by decide)] at H; exact H
    clear H
    have H := H1
    clear H1
    obtain rfl := Option.some.inj H
    go_enter Try.func5, Try.ntmps5
    go_wp2_with (first | ((with_reducible refine gate_callee (f := 23) rfl ?_); refine goesL_ (some 7) rfl rfl Try.func23 (by kernel_rfl) rfl #[] rfl (by (try simp only [List.map_toArray, List.map_cons, List.map_nil]); first | done | rfl | (simp only [List.length_drop, List.length_take]; rfl)) ?_; (with_reducible refine (avermentlaw11_told.calls k  false _ A4.out).mono ?_); rintro e w' ⟨rfl, ⟨nd, rfl⟩⟩; refine ⟨_, rfl, ?_⟩))
    go_ret
    exact ⟨by first | rfl | (simp [errW_none, errW_some] <;> rfl) | (simp [*, errW_none, errW_some] <;> rfl), by repeat (first | (with_reducible first | exact HB.out | apply below_alloc | apply pw_below_drewN | apply below_drew1) | exact HB.out)⟩

/-- THE ONE PURE STATEMENT of avermentlaw11_ParityMakes: yours. -/
def avermentlaw11_ParityMakes.Pure : Prop := ∀ (a0 : Int) (a1 : Int) (a2 : Int), (Lit.int .i64 a0).wf = true → (Lit.int .i64 a1).wf = true → (Lit.int .i64 a2).wf = true → ∃ k, avermentlaw11_ParityMakes.f k a0 a1 a2 = some true
theorem avermentlaw11_ParityMakes.walk (P : avermentlaw11_ParityMakes.Pure) (a0 : Int) (a1 : Int) (a2 : Int) (w : World) (w0 : (Lit.int .i64 a0).wf = true) (w1 : (Lit.int .i64 a1).wf = true) (w2 : (Lit.int .i64 a2).wf = true) :
    Calls Try.prog 5 #[.int .i64 a0, .int .i64 a1, .int .i64 a2] w fun e w' => e = .returned (.bool true) ∧ Below w.heap.size w w' := by
  obtain ⟨k, h⟩ := P a0 a1 a2 w0 w1 w2
  refine (avermentlaw11_ParityMakes.calls k a0 a1 a2 true w h).mono ?_
  rintro e w' ⟨rfl, hd⟩
  exact ⟨rfl, hd⟩

/-! ### avermentlaw11_ParitySound: function 6 -/
def avermentlaw11_ParitySound.j0 : Nat → Int → Int → Bool → Option (Bool)
  | 0, _, _, _ => none
  | k + 1, x7, x9, x47 => if x47 = true then (some false) else ((parity_One.f 2 x9).bind fun t184 => ((parity_Has.f t184 x7).bind fun t185 => (if t185 = true then ((parity_One.f 3 x9).bind fun t186 => ((parity_Has.f t186 (wrap64 (-x7))).bind fun t187 => (if t187 = true then ((parity_Branch.f x9 (x7 != 0)).bind fun t188 => ((parity_Has.f t188 x7).bind fun t189 => (some t189))) else (some false)))) else (some false))))
def avermentlaw11_ParitySound.f (k : Nat) (a0 : Int) (a1_0 : Int) (a1_1 : Int) (a2_0 : Int) (a2_1 : Int) : Option (Bool) := (avermentref11_Of.f a1_0).bind fun t177 => ((avermentref11_Of.f a1_1).bind fun t178 => ((avermentref07_Arith.f a0 a1_0 a1_1).bind fun bt179 => ((avermentlaw11_told.f k).bind fun t181 => (if t181 = true then (if bt179.2 = true then ((parity_Two.f k a0 (Go.bits .or .i64 a2_0 t177) (Go.bits .or .i64 a2_1 t178)).bind fun t182 => ((parity_Has.f t182 bt179.1).bind fun t183 => (avermentlaw11_ParitySound.j0 k a1_0 (Go.bits .or .i64 a2_0 t177) (!t183)))) else (avermentlaw11_ParitySound.j0 k a1_0 (Go.bits .or .i64 a2_0 t177) false)) else (avermentlaw11_ParitySound.j0 k a1_0 (Go.bits .or .i64 a2_0 t177) true)))))
theorem avermentlaw11_ParitySound.mono_l : ∀ k, (∀ y0 y1 y2, LeO (avermentlaw11_ParitySound.j0 k y0 y1 y2) (avermentlaw11_ParitySound.j0 (k + 1) y0 y1 y2))
  | 0 => fun _ _ _ r h => by simp [avermentlaw11_ParitySound.j0] at h
  | k + 1 => by
    have ih0 := avermentlaw11_ParitySound.mono_l k
    · intro y0 y1 y2
      unfold avermentlaw11_ParitySound.j0
      repeat' first
      | (with_reducible exact ih0 _ _ _)
      | (with_reducible exact avermentlaw11_told.mono _)
      | (with_reducible exact parity_Two.mono _ _ _ _)
      | (with_reducible exact LeO.refl _)
      | (with_reducible exact LeO.none _)
      | (with_reducible refine LeO.ite ?_ ?_)
      | (with_reducible refine LeO.bind ?_ (fun _ => ?_))
      | exact ih0 _ _ _
      | exact avermentlaw11_told.mono _
      | exact parity_Two.mono _ _ _ _
      | exact LeO.none _
      | refine LeO.ite ?_ ?_
      | refine LeO.bind ?_ (fun _ => ?_)
theorem avermentlaw11_ParitySound.mono : ∀ a0 a1 a2 a3 a4 k, LeO (avermentlaw11_ParitySound.f k a0 a1 a2 a3 a4) (avermentlaw11_ParitySound.f (k + 1) a0 a1 a2 a3 a4) := by
  intro a0 a1 a2 a3 a4 k
  have ih0 := avermentlaw11_ParitySound.mono_l k
  unfold avermentlaw11_ParitySound.f
  repeat' first
      | (with_reducible exact ih0 _ _ _)
      | (with_reducible exact avermentlaw11_told.mono _)
      | (with_reducible exact parity_Two.mono _ _ _ _)
      | (with_reducible exact LeO.refl _)
      | (with_reducible exact LeO.none _)
      | (with_reducible refine LeO.ite ?_ ?_)
      | (with_reducible refine LeO.bind ?_ (fun _ => ?_))
      | exact ih0 _ _ _
      | exact avermentlaw11_told.mono _
      | exact parity_Two.mono _ _ _ _
      | exact LeO.none _
      | refine LeO.ite ?_ ?_
      | refine LeO.bind ?_ (fun _ => ?_)
set_option maxHeartbeats 8000000 in
set_option maxRecDepth 100000 in
theorem avermentlaw11_ParitySound.calls (k : Nat) (a0 : Int) (a1_0 : Int) (a1_1 : Int) (a2_0 : Int) (a2_1 : Int) (r : Bool) (w : World) (h : avermentlaw11_ParitySound.f k a0 a1_0 a1_1 a2_0 a2_1 = some r) :
    Calls Try.prog 6 #[.int .i64 a0, .agg #[.int .i64 a1_0, .int .i64 a1_1], .agg #[.int .i64 a2_0, .int .i64 a2_1]] w fun e w' => e = .returned (.bool r) ∧ Below w.heap.size w w' := by
  have hu33 := Try.underlying33
  have hu34 := Try.underlying34
  have HB := Aside0.mk (Below.refl w.heap.size w)
  have H : ((avermentref11_Of.f a1_0).bind fun t177 => ((avermentref11_Of.f a1_1).bind fun t178 => ((avermentref07_Arith.f a0 a1_0 a1_1).bind fun bt179 => ((avermentlaw11_told.f k).bind fun t181 => (if t181 = true then (if bt179.2 = true then ((parity_Two.f k a0 (Go.bits .or .i64 a2_0 t177) (Go.bits .or .i64 a2_1 t178)).bind fun t182 => ((parity_Has.f t182 bt179.1).bind fun t183 => (avermentlaw11_ParitySound.j0 k a1_0 (Go.bits .or .i64 a2_0 t177) (!t183)))) else (avermentlaw11_ParitySound.j0 k a1_0 (Go.bits .or .i64 a2_0 t177) false)) else (avermentlaw11_ParitySound.j0 k a1_0 (Go.bits .or .i64 a2_0 t177) true)))))) = some r := h
  clear h
  replace H := Option.bind_eq_some_iff.mp H
  obtain ⟨t177, A40, H⟩ := H
  replace H : ((avermentref11_Of.f a1_1).bind fun t178 => ((avermentref07_Arith.f a0 a1_0 a1_1).bind fun bt179 => ((avermentlaw11_told.f k).bind fun t181 => (if t181 = true then (if bt179.2 = true then ((parity_Two.f k a0 (Go.bits .or .i64 a2_0 t177) (Go.bits .or .i64 a2_1 t178)).bind fun t182 => ((parity_Has.f t182 bt179.1).bind fun t183 => (avermentlaw11_ParitySound.j0 k a1_0 (Go.bits .or .i64 a2_0 t177) (!t183)))) else (avermentlaw11_ParitySound.j0 k a1_0 (Go.bits .or .i64 a2_0 t177) false)) else (avermentlaw11_ParitySound.j0 k a1_0 (Go.bits .or .i64 a2_0 t177) true))))) = some r := H
  have A4 := Aside0.mk A40
  clear A40
  replace H := Option.bind_eq_some_iff.mp H
  obtain ⟨t178, A50, H⟩ := H
  replace H : ((avermentref07_Arith.f a0 a1_0 a1_1).bind fun bt179 => ((avermentlaw11_told.f k).bind fun t181 => (if t181 = true then (if bt179.2 = true then ((parity_Two.f k a0 (Go.bits .or .i64 a2_0 t177) (Go.bits .or .i64 a2_1 t178)).bind fun t182 => ((parity_Has.f t182 bt179.1).bind fun t183 => (avermentlaw11_ParitySound.j0 k a1_0 (Go.bits .or .i64 a2_0 t177) (!t183)))) else (avermentlaw11_ParitySound.j0 k a1_0 (Go.bits .or .i64 a2_0 t177) false)) else (avermentlaw11_ParitySound.j0 k a1_0 (Go.bits .or .i64 a2_0 t177) true)))) = some r := H
  have A5 := Aside0.mk A50
  clear A50
  replace H := Option.bind_eq_some_iff.mp H
  obtain ⟨⟨t179, t180⟩, A60, H⟩ := H
  replace H : ((avermentlaw11_told.f k).bind fun t181 => (if t181 = true then (if t180 = true then ((parity_Two.f k a0 (Go.bits .or .i64 a2_0 t177) (Go.bits .or .i64 a2_1 t178)).bind fun t182 => ((parity_Has.f t182 t179).bind fun t183 => (avermentlaw11_ParitySound.j0 k a1_0 (Go.bits .or .i64 a2_0 t177) (!t183)))) else (avermentlaw11_ParitySound.j0 k a1_0 (Go.bits .or .i64 a2_0 t177) false)) else (avermentlaw11_ParitySound.j0 k a1_0 (Go.bits .or .i64 a2_0 t177) true))) = some r := H
  have A6 := Aside0.mk A60
  clear A60
  have HC7 := Aside0.mk H
  clear H
  go_enter Try.func6, Try.ntmps6
  go_upto_region 4 with (first | ((with_reducible refine gate_dst (N := 4) rfl ?_); refine box_event ?hg (N := 4) ?hd (cs := #[.int .i64 a1_0, .int .i64 a1_1]) (t := 33) ?hr ?_; (case hd => rfl); (case hg => rfl); (case hr => first | (go_simp; done) | (go_simp; rfl)); intro gb175 hg w8 hbox hb; have n0_ := Aside0.mk (below_step (by repeat (first | (with_reducible first | exact HB.out | apply below_alloc | apply pw_below_drewN | apply below_drew1) | exact HB.out)) hb); have n1_ := Aside0.mk (hbox); have n2_ := Aside0.mk ((by rw [hg]; exact (below_size (by repeat (first | (with_reducible first | exact HB.out | apply below_alloc | apply pw_below_drewN | apply below_drew1) | exact HB.out))) : w.heap.size ≤ gb175)); have n3_ := Aside0.mk ((by rw [hg]; exact (below_size (by repeat (first | (with_reducible first | exact HB.out | apply below_alloc | apply pw_below_drewN | apply below_drew1) | exact HB.out))) : w.heap.size ≤ gb175)); clear HB; have HB := n0_; have BK175 := n1_; have GW175 := n2_; have GE175 := n3_; clear n0_ n1_ n2_ n3_; clear hb hbox hg) | ((with_reducible refine gate_dst (N := 5) rfl ?_); refine box_event ?hg (N := 5) ?hd (cs := #[.int .i64 a2_0, .int .i64 a2_1]) (t := 34) ?hr ?_; (case hd => rfl); (case hg => rfl); (case hr => first | (go_simp; done) | (go_simp; rfl)); intro gb176 hg w9 hbox hb; have n0_ := Aside0.mk (blk_below (g := gb175) (o := .cells #[.int .i64 a1_0, .int .i64 a1_1] 33 (0, 0)) (by (with_reducible repeat (first | refine blk_drewN ?_ _ | refine blk_drew ?_ | refine blk_alloc ?_ _)); exact BK175.out) hb); have n1_ := Aside0.mk (below_step (by repeat (first | (with_reducible first | exact HB.out | apply below_alloc | apply pw_below_drewN | apply below_drew1 | refine below_set ?_ GE175.out) | exact HB.out)) hb); have n2_ := Aside0.mk (hbox); have n3_ := Aside0.mk ((by rw [hg]; exact (below_size (by repeat (first | (with_reducible first | exact HB.out | apply below_alloc | apply pw_below_drewN | apply below_drew1 | refine below_set ?_ GE175.out) | exact HB.out))) : w.heap.size ≤ gb176)); have n4_ := Aside0.mk ((by rw [hg]; exact (below_size (by repeat (first | (with_reducible first | exact HB.out | apply below_alloc | apply pw_below_drewN | apply below_drew1 | refine below_set ?_ GE175.out) | exact HB.out))) : w.heap.size ≤ gb176)); have n5_ := Aside0.mk ((by rw [hg]; exact Nat.ne_of_lt (blk_lt (g := gb175) (o := .cells #[.int .i64 a1_0, .int .i64 a1_1] 33 (0, 0)) (by (with_reducible repeat (first | refine blk_drewN ?_ _ | refine blk_drew ?_ | refine blk_alloc ?_ _)); exact BK175.out)) : gb175 ≠ gb176)); have n6_ := Aside0.mk ((by rw [hg]; exact Nat.ne_of_gt (blk_lt (g := gb175) (o := .cells #[.int .i64 a1_0, .int .i64 a1_1] 33 (0, 0)) (by (with_reducible repeat (first | refine blk_drewN ?_ _ | refine blk_drew ?_ | refine blk_alloc ?_ _)); exact BK175.out)) : gb176 ≠ gb175)); clear BK175; clear HB; have BK175 := n0_; have HB := n1_; have BK176 := n2_; have GW176 := n3_; have GE176 := n4_; have NB175_176 := n5_; have NB176_175 := n6_; clear n0_ n1_ n2_ n3_ n4_ n5_ n6_; clear hb hbox hg; have hnb10 := NB175_176.out; have hnc10 := NB176_175.out; have hcz11_0 : w9.cell? ⟨gb175, 0, none⟩ = some (.int .i64 a1_0) := (blk_cell BK175.out 0).trans rfl; have hcz11_1 : w9.cell? ⟨gb175, 1, none⟩ = some (.int .i64 a1_1) := (blk_cell BK175.out 1).trans rfl; have hfz11_0 := blk_frozen BK175.out 0; have hfz11_1 := blk_frozen BK175.out 1; have hcz12_0 : w9.cell? ⟨gb176, 0, none⟩ = some (.int .i64 a2_0) := (blk_cell BK176.out 0).trans rfl; have hcz12_1 : w9.cell? ⟨gb176, 1, none⟩ = some (.int .i64 a2_1) := (blk_cell BK176.out 1).trans rfl; have hfz12_0 := blk_frozen BK176.out 0; have hfz12_1 := blk_frozen BK176.out 1) | (go_at_call 26; (with_reducible refine (avermentref11_Of.calls a1_0 t177 _ A4.out).mono ?_); rintro e w' ⟨rfl, ⟨nd, rfl⟩⟩; (try first | exact ⟨rfl, _, World.drewN_drewN _ _ _⟩ | exact ⟨rfl, _, Eq.trans (World.drewN_drewN _ _ _) (congrArg (World.drewN _) (Nat.add_assoc _ _ _))⟩)) | (go_at_call 26; (with_reducible refine (avermentref11_Of.calls a1_1 t178 _ A5.out).mono ?_); rintro e w' ⟨rfl, ⟨nd, rfl⟩⟩; (try first | exact ⟨rfl, _, World.drewN_drewN _ _ _⟩ | exact ⟨rfl, _, Eq.trans (World.drewN_drewN _ _ _) (congrArg (World.drewN _) (Nat.add_assoc _ _ _))⟩)) | (go_at_call 38; (with_reducible refine (avermentref07_Arith.calls a0 a1_0 a1_1 t179 t180 _ A6.out).mono ?_); rintro e w' ⟨rfl, ⟨nd, rfl⟩⟩; (try first | exact ⟨rfl, _, World.drewN_drewN _ _ _⟩ | exact ⟨rfl, _, Eq.trans (World.drewN_drewN _ _ _) (congrArg (World.drewN _) (Nat.add_assoc _ _ _))⟩)))
  repeat (go_quiet (first | ((with_reducible refine gate_dst (N := 4) rfl ?_); refine box_event ?hg (N := 4) ?hd (cs := #[.int .i64 a1_0, .int .i64 a1_1]) (t := 33) ?hr ?_; (case hd => rfl); (case hg => rfl); (case hr => first | (go_simp; done) | (go_simp; rfl)); intro gb175 hg w8 hbox hb; have n0_ := Aside0.mk (below_step (by repeat (first | (with_reducible first | exact HB.out | apply below_alloc | apply pw_below_drewN | apply below_drew1) | exact HB.out)) hb); have n1_ := Aside0.mk (hbox); have n2_ := Aside0.mk ((by rw [hg]; exact (below_size (by repeat (first | (with_reducible first | exact HB.out | apply below_alloc | apply pw_below_drewN | apply below_drew1) | exact HB.out))) : w.heap.size ≤ gb175)); have n3_ := Aside0.mk ((by rw [hg]; exact (below_size (by repeat (first | (with_reducible first | exact HB.out | apply below_alloc | apply pw_below_drewN | apply below_drew1) | exact HB.out))) : w.heap.size ≤ gb175)); clear HB; have HB := n0_; have BK175 := n1_; have GW175 := n2_; have GE175 := n3_; clear n0_ n1_ n2_ n3_; clear hb hbox hg) | ((with_reducible refine gate_dst (N := 5) rfl ?_); refine box_event ?hg (N := 5) ?hd (cs := #[.int .i64 a2_0, .int .i64 a2_1]) (t := 34) ?hr ?_; (case hd => rfl); (case hg => rfl); (case hr => first | (go_simp; done) | (go_simp; rfl)); intro gb176 hg w9 hbox hb; have n0_ := Aside0.mk (blk_below (g := gb175) (o := .cells #[.int .i64 a1_0, .int .i64 a1_1] 33 (0, 0)) (by (with_reducible repeat (first | refine blk_drewN ?_ _ | refine blk_drew ?_ | refine blk_alloc ?_ _)); exact BK175.out) hb); have n1_ := Aside0.mk (below_step (by repeat (first | (with_reducible first | exact HB.out | apply below_alloc | apply pw_below_drewN | apply below_drew1 | refine below_set ?_ GE175.out) | exact HB.out)) hb); have n2_ := Aside0.mk (hbox); have n3_ := Aside0.mk ((by rw [hg]; exact (below_size (by repeat (first | (with_reducible first | exact HB.out | apply below_alloc | apply pw_below_drewN | apply below_drew1 | refine below_set ?_ GE175.out) | exact HB.out))) : w.heap.size ≤ gb176)); have n4_ := Aside0.mk ((by rw [hg]; exact (below_size (by repeat (first | (with_reducible first | exact HB.out | apply below_alloc | apply pw_below_drewN | apply below_drew1 | refine below_set ?_ GE175.out) | exact HB.out))) : w.heap.size ≤ gb176)); have n5_ := Aside0.mk ((by rw [hg]; exact Nat.ne_of_lt (blk_lt (g := gb175) (o := .cells #[.int .i64 a1_0, .int .i64 a1_1] 33 (0, 0)) (by (with_reducible repeat (first | refine blk_drewN ?_ _ | refine blk_drew ?_ | refine blk_alloc ?_ _)); exact BK175.out)) : gb175 ≠ gb176)); have n6_ := Aside0.mk ((by rw [hg]; exact Nat.ne_of_gt (blk_lt (g := gb175) (o := .cells #[.int .i64 a1_0, .int .i64 a1_1] 33 (0, 0)) (by (with_reducible repeat (first | refine blk_drewN ?_ _ | refine blk_drew ?_ | refine blk_alloc ?_ _)); exact BK175.out)) : gb176 ≠ gb175)); clear BK175; clear HB; have BK175 := n0_; have HB := n1_; have BK176 := n2_; have GW176 := n3_; have GE176 := n4_; have NB175_176 := n5_; have NB176_175 := n6_; clear n0_ n1_ n2_ n3_ n4_ n5_ n6_; clear hb hbox hg; have hnb10 := NB175_176.out; have hnc10 := NB176_175.out; have hcz11_0 : w9.cell? ⟨gb175, 0, none⟩ = some (.int .i64 a1_0) := (blk_cell BK175.out 0).trans rfl; have hcz11_1 : w9.cell? ⟨gb175, 1, none⟩ = some (.int .i64 a1_1) := (blk_cell BK175.out 1).trans rfl; have hfz11_0 := blk_frozen BK175.out 0; have hfz11_1 := blk_frozen BK175.out 1; have hcz12_0 : w9.cell? ⟨gb176, 0, none⟩ = some (.int .i64 a2_0) := (blk_cell BK176.out 0).trans rfl; have hcz12_1 : w9.cell? ⟨gb176, 1, none⟩ = some (.int .i64 a2_1) := (blk_cell BK176.out 1).trans rfl; have hfz12_0 := blk_frozen BK176.out 0; have hfz12_1 := blk_frozen BK176.out 1) | (go_at_call 26; (with_reducible refine (avermentref11_Of.calls a1_0 t177 _ A4.out).mono ?_); rintro e w' ⟨rfl, ⟨nd, rfl⟩⟩; (try first | exact ⟨rfl, _, World.drewN_drewN _ _ _⟩ | exact ⟨rfl, _, Eq.trans (World.drewN_drewN _ _ _) (congrArg (World.drewN _) (Nat.add_assoc _ _ _))⟩)) | (go_at_call 26; (with_reducible refine (avermentref11_Of.calls a1_1 t178 _ A5.out).mono ?_); rintro e w' ⟨rfl, ⟨nd, rfl⟩⟩; (try first | exact ⟨rfl, _, World.drewN_drewN _ _ _⟩ | exact ⟨rfl, _, Eq.trans (World.drewN_drewN _ _ _) (congrArg (World.drewN _) (Nat.add_assoc _ _ _))⟩)) | (go_at_call 38; (with_reducible refine (avermentref07_Arith.calls a0 a1_0 a1_1 t179 t180 _ A6.out).mono ?_); rintro e w' ⟨rfl, ⟨nd, rfl⟩⟩; (try first | exact ⟨rfl, _, World.drewN_drewN _ _ _⟩ | exact ⟨rfl, _, Eq.trans (World.drewN_drewN _ _ _) (congrArg (World.drewN _) (Nat.add_assoc _ _ _))⟩))); go_upto_region 4 with (first | ((with_reducible refine gate_dst (N := 4) rfl ?_); refine box_event ?hg (N := 4) ?hd (cs := #[.int .i64 a1_0, .int .i64 a1_1]) (t := 33) ?hr ?_; (case hd => rfl); (case hg => rfl); (case hr => first | (go_simp; done) | (go_simp; rfl)); intro gb175 hg w8 hbox hb; have n0_ := Aside0.mk (below_step (by repeat (first | (with_reducible first | exact HB.out | apply below_alloc | apply pw_below_drewN | apply below_drew1) | exact HB.out)) hb); have n1_ := Aside0.mk (hbox); have n2_ := Aside0.mk ((by rw [hg]; exact (below_size (by repeat (first | (with_reducible first | exact HB.out | apply below_alloc | apply pw_below_drewN | apply below_drew1) | exact HB.out))) : w.heap.size ≤ gb175)); have n3_ := Aside0.mk ((by rw [hg]; exact (below_size (by repeat (first | (with_reducible first | exact HB.out | apply below_alloc | apply pw_below_drewN | apply below_drew1) | exact HB.out))) : w.heap.size ≤ gb175)); clear HB; have HB := n0_; have BK175 := n1_; have GW175 := n2_; have GE175 := n3_; clear n0_ n1_ n2_ n3_; clear hb hbox hg) | ((with_reducible refine gate_dst (N := 5) rfl ?_); refine box_event ?hg (N := 5) ?hd (cs := #[.int .i64 a2_0, .int .i64 a2_1]) (t := 34) ?hr ?_; (case hd => rfl); (case hg => rfl); (case hr => first | (go_simp; done) | (go_simp; rfl)); intro gb176 hg w9 hbox hb; have n0_ := Aside0.mk (blk_below (g := gb175) (o := .cells #[.int .i64 a1_0, .int .i64 a1_1] 33 (0, 0)) (by (with_reducible repeat (first | refine blk_drewN ?_ _ | refine blk_drew ?_ | refine blk_alloc ?_ _)); exact BK175.out) hb); have n1_ := Aside0.mk (below_step (by repeat (first | (with_reducible first | exact HB.out | apply below_alloc | apply pw_below_drewN | apply below_drew1 | refine below_set ?_ GE175.out) | exact HB.out)) hb); have n2_ := Aside0.mk (hbox); have n3_ := Aside0.mk ((by rw [hg]; exact (below_size (by repeat (first | (with_reducible first | exact HB.out | apply below_alloc | apply pw_below_drewN | apply below_drew1 | refine below_set ?_ GE175.out) | exact HB.out))) : w.heap.size ≤ gb176)); have n4_ := Aside0.mk ((by rw [hg]; exact (below_size (by repeat (first | (with_reducible first | exact HB.out | apply below_alloc | apply pw_below_drewN | apply below_drew1 | refine below_set ?_ GE175.out) | exact HB.out))) : w.heap.size ≤ gb176)); have n5_ := Aside0.mk ((by rw [hg]; exact Nat.ne_of_lt (blk_lt (g := gb175) (o := .cells #[.int .i64 a1_0, .int .i64 a1_1] 33 (0, 0)) (by (with_reducible repeat (first | refine blk_drewN ?_ _ | refine blk_drew ?_ | refine blk_alloc ?_ _)); exact BK175.out)) : gb175 ≠ gb176)); have n6_ := Aside0.mk ((by rw [hg]; exact Nat.ne_of_gt (blk_lt (g := gb175) (o := .cells #[.int .i64 a1_0, .int .i64 a1_1] 33 (0, 0)) (by (with_reducible repeat (first | refine blk_drewN ?_ _ | refine blk_drew ?_ | refine blk_alloc ?_ _)); exact BK175.out)) : gb176 ≠ gb175)); clear BK175; clear HB; have BK175 := n0_; have HB := n1_; have BK176 := n2_; have GW176 := n3_; have GE176 := n4_; have NB175_176 := n5_; have NB176_175 := n6_; clear n0_ n1_ n2_ n3_ n4_ n5_ n6_; clear hb hbox hg; have hnb10 := NB175_176.out; have hnc10 := NB176_175.out; have hcz11_0 : w9.cell? ⟨gb175, 0, none⟩ = some (.int .i64 a1_0) := (blk_cell BK175.out 0).trans rfl; have hcz11_1 : w9.cell? ⟨gb175, 1, none⟩ = some (.int .i64 a1_1) := (blk_cell BK175.out 1).trans rfl; have hfz11_0 := blk_frozen BK175.out 0; have hfz11_1 := blk_frozen BK175.out 1; have hcz12_0 : w9.cell? ⟨gb176, 0, none⟩ = some (.int .i64 a2_0) := (blk_cell BK176.out 0).trans rfl; have hcz12_1 : w9.cell? ⟨gb176, 1, none⟩ = some (.int .i64 a2_1) := (blk_cell BK176.out 1).trans rfl; have hfz12_0 := blk_frozen BK176.out 0; have hfz12_1 := blk_frozen BK176.out 1) | (go_at_call 26; (with_reducible refine (avermentref11_Of.calls a1_0 t177 _ A4.out).mono ?_); rintro e w' ⟨rfl, ⟨nd, rfl⟩⟩; (try first | exact ⟨rfl, _, World.drewN_drewN _ _ _⟩ | exact ⟨rfl, _, Eq.trans (World.drewN_drewN _ _ _) (congrArg (World.drewN _) (Nat.add_assoc _ _ _))⟩)) | (go_at_call 26; (with_reducible refine (avermentref11_Of.calls a1_1 t178 _ A5.out).mono ?_); rintro e w' ⟨rfl, ⟨nd, rfl⟩⟩; (try first | exact ⟨rfl, _, World.drewN_drewN _ _ _⟩ | exact ⟨rfl, _, Eq.trans (World.drewN_drewN _ _ _) (congrArg (World.drewN _) (Nat.add_assoc _ _ _))⟩)) | (go_at_call 38; (with_reducible refine (avermentref07_Arith.calls a0 a1_0 a1_1 t179 t180 _ A6.out).mono ?_); rintro e w' ⟨rfl, ⟨nd, rfl⟩⟩; (try first | exact ⟨rfl, _, World.drewN_drewN _ _ _⟩ | exact ⟨rfl, _, Eq.trans (World.drewN_drewN _ _ _) (congrArg (World.drewN _) (Nat.add_assoc _ _ _))⟩))))
  (try simp only [Act.put, List.setIfInBounds_toArray, List.set_cons_zero, List.set_cons_succ])
  go_cut [47] (fun v47 wc => ∃ (kq : Nat) (x47_6 : Bool), v47 = .bool x47_6 ∧ Aside0 (avermentlaw11_ParitySound.j0 kq a1_0 (Go.bits .or .i64 a2_0 t177) x47_6 = some r) ∧ Aside0 (kq ≤ k) ∧ Aside0 (wc.heap[gb175]? = some (.cells #[.int .i64 a1_0, .int .i64 a1_1] 33 (0, 0))) ∧ Aside0 (wc.heap[gb176]? = some (.cells #[.int .i64 a2_0, .int .i64 a2_1] 34 (0, 0))) ∧ Aside0 (Below w.heap.size w wc))
  case first =>
    have H := HC7.out
    clear HC7
    replace H := Option.bind_eq_some_iff.mp H
    obtain ⟨t181, A130, H⟩ := H
    replace H : (if t181 = true then (if t180 = true then ((parity_Two.f k a0 (Go.bits .or .i64 a2_0 t177) (Go.bits .or .i64 a2_1 t178)).bind fun t182 => ((parity_Has.f t182 t179).bind fun t183 => (avermentlaw11_ParitySound.j0 k a1_0 (Go.bits .or .i64 a2_0 t177) (!t183)))) else (avermentlaw11_ParitySound.j0 k a1_0 (Go.bits .or .i64 a2_0 t177) false)) else (avermentlaw11_ParitySound.j0 k a1_0 (Go.bits .or .i64 a2_0 t177) true)) = some r := H
    have A13 := Aside0.mk A130
    clear A130
    by_cases c14 : t181 = true
    · subst c14
      have H1 : (if t180 = true then ((parity_Two.f k a0 (Go.bits .or .i64 a2_0 t177) (Go.bits .or .i64 a2_1 t178)).bind fun t182 => ((parity_Has.f t182 t179).bind fun t183 => (avermentlaw11_ParitySound.j0 k a1_0 (Go.bits .or .i64 a2_0 t177) (!t183)))) else (avermentlaw11_ParitySound.j0 k a1_0 (Go.bits .or .i64 a2_0 t177) false)) = some r := by rw [if_pos rfl] at H; exact H
      clear H
      have H := H1
      clear H1
      by_cases c15 : t180 = true
      · subst c15
        have H1 : ((parity_Two.f k a0 (Go.bits .or .i64 a2_0 t177) (Go.bits .or .i64 a2_1 t178)).bind fun t182 => ((parity_Has.f t182 t179).bind fun t183 => (avermentlaw11_ParitySound.j0 k a1_0 (Go.bits .or .i64 a2_0 t177) (!t183)))) = some r := by rw [if_pos rfl] at H; exact H
        clear H
        have H := H1
        clear H1
        replace H := Option.bind_eq_some_iff.mp H
        obtain ⟨t182, A160, H⟩ := H
        replace H : ((parity_Has.f t182 t179).bind fun t183 => (avermentlaw11_ParitySound.j0 k a1_0 (Go.bits .or .i64 a2_0 t177) (!t183))) = some r := H
        have A16 := Aside0.mk A160
        clear A160
        replace H := Option.bind_eq_some_iff.mp H
        obtain ⟨t183, A170, H⟩ := H
        replace H : (avermentlaw11_ParitySound.j0 k a1_0 (Go.bits .or .i64 a2_0 t177) (!t183)) = some r := H
        have A17 := Aside0.mk A170
        clear A170
        have H' := Aside0.mk H
        clear H
        go_wp2_with (first | (go_at_call 23; (with_reducible refine (avermentlaw11_told.calls k  true _ A13.out).mono ?_); rintro e w' ⟨rfl, ⟨nd, rfl⟩⟩; (try first | exact ⟨rfl, _, World.drewN_drewN _ _ _⟩ | exact ⟨rfl, _, Eq.trans (World.drewN_drewN _ _ _) (congrArg (World.drewN _) (Nat.add_assoc _ _ _))⟩)) | (go_at_call 34; (with_reducible refine (parity_Two.calls k a0 (Go.bits .or .i64 a2_0 t177) (Go.bits .or .i64 a2_1 t178) t182 _ A16.out).mono ?_); rintro e w' ⟨rfl, ⟨nd, rfl⟩⟩; (try first | exact ⟨rfl, _, World.drewN_drewN _ _ _⟩ | exact ⟨rfl, _, Eq.trans (World.drewN_drewN _ _ _) (congrArg (World.drewN _) (Nat.add_assoc _ _ _))⟩)) | (go_at_call 27; (with_reducible refine (parity_Has.calls t182 t179 t183 _ A17.out).mono ?_); rintro e w' ⟨rfl, ⟨nd, rfl⟩⟩; (try first | exact ⟨rfl, _, World.drewN_drewN _ _ _⟩ | exact ⟨rfl, _, Eq.trans (World.drewN_drewN _ _ _) (congrArg (World.drewN _) (Nat.add_assoc _ _ _))⟩)))
        repeat (go_quiet (first | (go_at_call 23; (with_reducible refine (avermentlaw11_told.calls k  true _ A13.out).mono ?_); rintro e w' ⟨rfl, ⟨nd, rfl⟩⟩; (try first | exact ⟨rfl, _, World.drewN_drewN _ _ _⟩ | exact ⟨rfl, _, Eq.trans (World.drewN_drewN _ _ _) (congrArg (World.drewN _) (Nat.add_assoc _ _ _))⟩)) | (go_at_call 34; (with_reducible refine (parity_Two.calls k a0 (Go.bits .or .i64 a2_0 t177) (Go.bits .or .i64 a2_1 t178) t182 _ A16.out).mono ?_); rintro e w' ⟨rfl, ⟨nd, rfl⟩⟩; (try first | exact ⟨rfl, _, World.drewN_drewN _ _ _⟩ | exact ⟨rfl, _, Eq.trans (World.drewN_drewN _ _ _) (congrArg (World.drewN _) (Nat.add_assoc _ _ _))⟩)) | (go_at_call 27; (with_reducible refine (parity_Has.calls t182 t179 t183 _ A17.out).mono ?_); rintro e w' ⟨rfl, ⟨nd, rfl⟩⟩; (try first | exact ⟨rfl, _, World.drewN_drewN _ _ _⟩ | exact ⟨rfl, _, Eq.trans (World.drewN_drewN _ _ _) (congrArg (World.drewN _) (Nat.add_assoc _ _ _))⟩))); try go_wp2_with (first | (go_at_call 23; (with_reducible refine (avermentlaw11_told.calls k  true _ A13.out).mono ?_); rintro e w' ⟨rfl, ⟨nd, rfl⟩⟩; (try first | exact ⟨rfl, _, World.drewN_drewN _ _ _⟩ | exact ⟨rfl, _, Eq.trans (World.drewN_drewN _ _ _) (congrArg (World.drewN _) (Nat.add_assoc _ _ _))⟩)) | (go_at_call 34; (with_reducible refine (parity_Two.calls k a0 (Go.bits .or .i64 a2_0 t177) (Go.bits .or .i64 a2_1 t178) t182 _ A16.out).mono ?_); rintro e w' ⟨rfl, ⟨nd, rfl⟩⟩; (try first | exact ⟨rfl, _, World.drewN_drewN _ _ _⟩ | exact ⟨rfl, _, Eq.trans (World.drewN_drewN _ _ _) (congrArg (World.drewN _) (Nat.add_assoc _ _ _))⟩)) | (go_at_call 27; (with_reducible refine (parity_Has.calls t182 t179 t183 _ A17.out).mono ?_); rintro e w' ⟨rfl, ⟨nd, rfl⟩⟩; (try first | exact ⟨rfl, _, World.drewN_drewN _ _ _⟩ | exact ⟨rfl, _, Eq.trans (World.drewN_drewN _ _ _) (congrArg (World.drewN _) (Nat.add_assoc _ _ _))⟩))))
        go_meet
        case rel => exact ⟨_, (!t183), (by first | rfl | (simp; done) | (simp [*]; done)), H', ⟨by first | omega | exact Nat.le_refl _⟩, ⟨by (with_reducible repeat (first | refine blk_drewN ?_ _ | refine blk_drew ?_ | refine blk_alloc ?_ _)); exact BK175.out⟩, ⟨by (with_reducible repeat (first | refine blk_drewN ?_ _ | refine blk_drew ?_ | refine blk_alloc ?_ _)); exact BK176.out⟩, ⟨by repeat (first | (with_reducible first | exact HB.out | apply below_alloc | apply pw_below_drewN | apply below_drew1 | refine below_set ?_ GE175.out | refine below_set ?_ GE176.out) | exact HB.out)⟩⟩
      · replace c15 := Bool.eq_false_iff.mpr c15
        subst c15
        have H1 : (avermentlaw11_ParitySound.j0 k a1_0 (Go.bits .or .i64 a2_0 t177) false) = some r := by rw [if_neg (show ¬ (false = true) by decide)] at H; exact H
        clear H
        have H := H1
        clear H1
        have H' := Aside0.mk H
        clear H
        go_wp2_with (first | (go_at_call 23; (with_reducible refine (avermentlaw11_told.calls k  true _ A13.out).mono ?_); rintro e w' ⟨rfl, ⟨nd, rfl⟩⟩; (try first | exact ⟨rfl, _, World.drewN_drewN _ _ _⟩ | exact ⟨rfl, _, Eq.trans (World.drewN_drewN _ _ _) (congrArg (World.drewN _) (Nat.add_assoc _ _ _))⟩)))
        repeat (go_quiet (first | (go_at_call 23; (with_reducible refine (avermentlaw11_told.calls k  true _ A13.out).mono ?_); rintro e w' ⟨rfl, ⟨nd, rfl⟩⟩; (try first | exact ⟨rfl, _, World.drewN_drewN _ _ _⟩ | exact ⟨rfl, _, Eq.trans (World.drewN_drewN _ _ _) (congrArg (World.drewN _) (Nat.add_assoc _ _ _))⟩))); try go_wp2_with (first | (go_at_call 23; (with_reducible refine (avermentlaw11_told.calls k  true _ A13.out).mono ?_); rintro e w' ⟨rfl, ⟨nd, rfl⟩⟩; (try first | exact ⟨rfl, _, World.drewN_drewN _ _ _⟩ | exact ⟨rfl, _, Eq.trans (World.drewN_drewN _ _ _) (congrArg (World.drewN _) (Nat.add_assoc _ _ _))⟩))))
        go_meet
        case rel => exact ⟨_, (false), (by first | rfl | (simp; done) | (simp [*]; done)), H', ⟨by first | omega | exact Nat.le_refl _⟩, ⟨by (with_reducible repeat (first | refine blk_drewN ?_ _ | refine blk_drew ?_ | refine blk_alloc ?_ _)); exact BK175.out⟩, ⟨by (with_reducible repeat (first | refine blk_drewN ?_ _ | refine blk_drew ?_ | refine blk_alloc ?_ _)); exact BK176.out⟩, ⟨by repeat (first | (with_reducible first | exact HB.out | apply below_alloc | apply pw_below_drewN | apply below_drew1 | refine below_set ?_ GE175.out | refine below_set ?_ GE176.out) | exact HB.out)⟩⟩
    · replace c14 := Bool.eq_false_iff.mpr c14
      subst c14
      have H1 : (avermentlaw11_ParitySound.j0 k a1_0 (Go.bits .or .i64 a2_0 t177) true) = some r := by rw [if_neg (show ¬ (false = true) by decide)] at H; exact H
      clear H
      have H := H1
      clear H1
      have H' := Aside0.mk H
      clear H
      go_wp2_with (first | (go_at_call 23; (with_reducible refine (avermentlaw11_told.calls k  false _ A13.out).mono ?_); rintro e w' ⟨rfl, ⟨nd, rfl⟩⟩; (try first | exact ⟨rfl, _, World.drewN_drewN _ _ _⟩ | exact ⟨rfl, _, Eq.trans (World.drewN_drewN _ _ _) (congrArg (World.drewN _) (Nat.add_assoc _ _ _))⟩)))
      repeat (go_quiet (first | (go_at_call 23; (with_reducible refine (avermentlaw11_told.calls k  false _ A13.out).mono ?_); rintro e w' ⟨rfl, ⟨nd, rfl⟩⟩; (try first | exact ⟨rfl, _, World.drewN_drewN _ _ _⟩ | exact ⟨rfl, _, Eq.trans (World.drewN_drewN _ _ _) (congrArg (World.drewN _) (Nat.add_assoc _ _ _))⟩))); try go_wp2_with (first | (go_at_call 23; (with_reducible refine (avermentlaw11_told.calls k  false _ A13.out).mono ?_); rintro e w' ⟨rfl, ⟨nd, rfl⟩⟩; (try first | exact ⟨rfl, _, World.drewN_drewN _ _ _⟩ | exact ⟨rfl, _, Eq.trans (World.drewN_drewN _ _ _) (congrArg (World.drewN _) (Nat.add_assoc _ _ _))⟩))))
      go_meet
      case rel => exact ⟨_, (true), (by first | rfl | (simp; done) | (simp [*]; done)), H', ⟨by first | omega | exact Nat.le_refl _⟩, ⟨by (with_reducible repeat (first | refine blk_drewN ?_ _ | refine blk_drew ?_ | refine blk_alloc ?_ _)); exact BK175.out⟩, ⟨by (with_reducible repeat (first | refine blk_drewN ?_ _ | refine blk_drew ?_ | refine blk_alloc ?_ _)); exact BK176.out⟩, ⟨by repeat (first | (with_reducible first | exact HB.out | apply below_alloc | apply pw_below_drewN | apply below_drew1 | refine below_set ?_ GE175.out | refine below_set ?_ GE176.out) | exact HB.out)⟩⟩
  case rest =>
    clear HC7
    try clear c1
    try clear p2
    try clear c6
    try clear c10
    try clear c14
    try clear c15
    try clear hcz11_0
    try clear hcz11_1
    try clear hcz12_0
    try clear hcz12_1
    try clear hfz11_0
    try clear hfz11_1
    try clear hfz12_0
    try clear hfz12_1
    obtain ⟨kq, x47_6, rfl, HA, HJ6, BK175, BK176, HB⟩ := hcut
    cases kq with
    | zero => exact absurd HA.out (by simp [avermentlaw11_ParitySound.j0])
    | succ kj6 =>
      have H := HA.out
      clear HA
      simp only [avermentlaw11_ParitySound.j0] at H
      by_cases c18 : x47_6 = true
      · subst c18
        have H1 : (some false) = some r := by rw [if_pos rfl] at H; exact H
        clear H
        have H := H1
        clear H1
        obtain rfl := Option.some.inj H
        go_wp2
        repeat (go_quiet (fail); try go_wp2)
        go_ret
        exact ⟨by first | rfl | (simp [errW_none, errW_some] <;> rfl) | (simp [*, errW_none, errW_some] <;> rfl), by repeat (first | (with_reducible first | exact HB.out | apply below_alloc | apply pw_below_drewN | apply below_drew1 | refine below_set ?_ GE175.out | refine below_set ?_ GE176.out) | exact HB.out)⟩
      · replace c18 := Bool.eq_false_iff.mpr c18
        subst c18
        have H1 : ((parity_One.f 2 (Go.bits .or .i64 a2_0 t177)).bind fun t184 => ((parity_Has.f t184 a1_0).bind fun t185 => (if t185 = true then ((parity_One.f 3 (Go.bits .or .i64 a2_0 t177)).bind fun t186 => ((parity_Has.f t186 (wrap64 (-a1_0))).bind fun t187 => (if t187 = true then ((parity_Branch.f (Go.bits .or .i64 a2_0 t177) (a1_0 != 0)).bind fun t188 => ((parity_Has.f t188 a1_0).bind fun t189 => (some t189))) else (some false)))) else (some false)))) = some r := by rw [if_neg (show ¬ (false = true) by decide)] at H; exact H
        clear H
        have H := H1
        clear H1
        replace H := Option.bind_eq_some_iff.mp H
        obtain ⟨t184, A190, H⟩ := H
        replace H : ((parity_Has.f t184 a1_0).bind fun t185 => (if t185 = true then ((parity_One.f 3 (Go.bits .or .i64 a2_0 t177)).bind fun t186 => ((parity_Has.f t186 (wrap64 (-a1_0))).bind fun t187 => (if t187 = true then ((parity_Branch.f (Go.bits .or .i64 a2_0 t177) (a1_0 != 0)).bind fun t188 => ((parity_Has.f t188 a1_0).bind fun t189 => (some t189))) else (some false)))) else (some false))) = some r := H
        have A19 := Aside0.mk A190
        clear A190
        replace H := Option.bind_eq_some_iff.mp H
        obtain ⟨t185, A200, H⟩ := H
        replace H : (if t185 = true then ((parity_One.f 3 (Go.bits .or .i64 a2_0 t177)).bind fun t186 => ((parity_Has.f t186 (wrap64 (-a1_0))).bind fun t187 => (if t187 = true then ((parity_Branch.f (Go.bits .or .i64 a2_0 t177) (a1_0 != 0)).bind fun t188 => ((parity_Has.f t188 a1_0).bind fun t189 => (some t189))) else (some false)))) else (some false)) = some r := H
        have A20 := Aside0.mk A200
        clear A200
        by_cases c21 : t185 = true
        · subst c21
          have H1 : ((parity_One.f 3 (Go.bits .or .i64 a2_0 t177)).bind fun t186 => ((parity_Has.f t186 (wrap64 (-a1_0))).bind fun t187 => (if t187 = true then ((parity_Branch.f (Go.bits .or .i64 a2_0 t177) (a1_0 != 0)).bind fun t188 => ((parity_Has.f t188 a1_0).bind fun t189 => (some t189))) else (some false)))) = some r := by rw [if_pos rfl] at H; exact H
          clear H
          have H := H1
          clear H1
          replace H := Option.bind_eq_some_iff.mp H
          obtain ⟨t186, A220, H⟩ := H
          replace H : ((parity_Has.f t186 (wrap64 (-a1_0))).bind fun t187 => (if t187 = true then ((parity_Branch.f (Go.bits .or .i64 a2_0 t177) (a1_0 != 0)).bind fun t188 => ((parity_Has.f t188 a1_0).bind fun t189 => (some t189))) else (some false))) = some r := H
          have A22 := Aside0.mk A220
          clear A220
          replace H := Option.bind_eq_some_iff.mp H
          obtain ⟨t187, A230, H⟩ := H
          replace H : (if t187 = true then ((parity_Branch.f (Go.bits .or .i64 a2_0 t177) (a1_0 != 0)).bind fun t188 => ((parity_Has.f t188 a1_0).bind fun t189 => (some t189))) else (some false)) = some r := H
          have A23 := Aside0.mk A230
          clear A230
          by_cases c24 : t187 = true
          · subst c24
            have H1 : ((parity_Branch.f (Go.bits .or .i64 a2_0 t177) (a1_0 != 0)).bind fun t188 => ((parity_Has.f t188 a1_0).bind fun t189 => (some t189))) = some r := by rw [if_pos rfl] at H; exact H
            clear H
            have H := H1
            clear H1
            replace H := Option.bind_eq_some_iff.mp H
            obtain ⟨t188, A250, H⟩ := H
            replace H : ((parity_Has.f t188 a1_0).bind fun t189 => (some t189)) = some r := H
            have A25 := Aside0.mk A250
            clear A250
            replace H := Option.bind_eq_some_iff.mp H
            obtain ⟨t189, A260, H⟩ := H
            replace H : (some t189) = some r := H
            have A26 := Aside0.mk A260
            clear A260
            obtain rfl := Option.some.inj H
            go_wp2_with (first | (go_at_call 32; (with_reducible refine (parity_One.calls 2 (Go.bits .or .i64 a2_0 t177) t184 _ A19.out).mono ?_); rintro e w' ⟨rfl, ⟨nd, rfl⟩⟩; (try first | exact ⟨rfl, _, World.drewN_drewN _ _ _⟩ | exact ⟨rfl, _, Eq.trans (World.drewN_drewN _ _ _) (congrArg (World.drewN _) (Nat.add_assoc _ _ _))⟩)) | (go_at_call 27; (with_reducible refine (parity_Has.calls t184 a1_0 true _ A20.out).mono ?_); rintro e w' ⟨rfl, ⟨nd, rfl⟩⟩; (try first | exact ⟨rfl, _, World.drewN_drewN _ _ _⟩ | exact ⟨rfl, _, Eq.trans (World.drewN_drewN _ _ _) (congrArg (World.drewN _) (Nat.add_assoc _ _ _))⟩)) | (go_at_call 32; (with_reducible refine (parity_One.calls 3 (Go.bits .or .i64 a2_0 t177) t186 _ A22.out).mono ?_); rintro e w' ⟨rfl, ⟨nd, rfl⟩⟩; (try first | exact ⟨rfl, _, World.drewN_drewN _ _ _⟩ | exact ⟨rfl, _, Eq.trans (World.drewN_drewN _ _ _) (congrArg (World.drewN _) (Nat.add_assoc _ _ _))⟩)) | (go_at_call 27; (with_reducible refine (parity_Has.calls t186 (wrap64 (-a1_0)) true _ A23.out).mono ?_); rintro e w' ⟨rfl, ⟨nd, rfl⟩⟩; (try first | exact ⟨rfl, _, World.drewN_drewN _ _ _⟩ | exact ⟨rfl, _, Eq.trans (World.drewN_drewN _ _ _) (congrArg (World.drewN _) (Nat.add_assoc _ _ _))⟩)) | (go_at_call 36; (with_reducible refine (parity_Branch.calls (Go.bits .or .i64 a2_0 t177) (a1_0 != 0) t188 _ A25.out).mono ?_); rintro e w' ⟨rfl, ⟨nd, rfl⟩⟩; (try first | exact ⟨rfl, _, World.drewN_drewN _ _ _⟩ | exact ⟨rfl, _, Eq.trans (World.drewN_drewN _ _ _) (congrArg (World.drewN _) (Nat.add_assoc _ _ _))⟩)) | (go_at_call 27; (with_reducible refine (parity_Has.calls t188 a1_0 t189 _ A26.out).mono ?_); rintro e w' ⟨rfl, ⟨nd, rfl⟩⟩; (try first | exact ⟨rfl, _, World.drewN_drewN _ _ _⟩ | exact ⟨rfl, _, Eq.trans (World.drewN_drewN _ _ _) (congrArg (World.drewN _) (Nat.add_assoc _ _ _))⟩)))
            repeat (go_quiet (first | (go_at_call 32; (with_reducible refine (parity_One.calls 2 (Go.bits .or .i64 a2_0 t177) t184 _ A19.out).mono ?_); rintro e w' ⟨rfl, ⟨nd, rfl⟩⟩; (try first | exact ⟨rfl, _, World.drewN_drewN _ _ _⟩ | exact ⟨rfl, _, Eq.trans (World.drewN_drewN _ _ _) (congrArg (World.drewN _) (Nat.add_assoc _ _ _))⟩)) | (go_at_call 27; (with_reducible refine (parity_Has.calls t184 a1_0 true _ A20.out).mono ?_); rintro e w' ⟨rfl, ⟨nd, rfl⟩⟩; (try first | exact ⟨rfl, _, World.drewN_drewN _ _ _⟩ | exact ⟨rfl, _, Eq.trans (World.drewN_drewN _ _ _) (congrArg (World.drewN _) (Nat.add_assoc _ _ _))⟩)) | (go_at_call 32; (with_reducible refine (parity_One.calls 3 (Go.bits .or .i64 a2_0 t177) t186 _ A22.out).mono ?_); rintro e w' ⟨rfl, ⟨nd, rfl⟩⟩; (try first | exact ⟨rfl, _, World.drewN_drewN _ _ _⟩ | exact ⟨rfl, _, Eq.trans (World.drewN_drewN _ _ _) (congrArg (World.drewN _) (Nat.add_assoc _ _ _))⟩)) | (go_at_call 27; (with_reducible refine (parity_Has.calls t186 (wrap64 (-a1_0)) true _ A23.out).mono ?_); rintro e w' ⟨rfl, ⟨nd, rfl⟩⟩; (try first | exact ⟨rfl, _, World.drewN_drewN _ _ _⟩ | exact ⟨rfl, _, Eq.trans (World.drewN_drewN _ _ _) (congrArg (World.drewN _) (Nat.add_assoc _ _ _))⟩)) | (go_at_call 36; (with_reducible refine (parity_Branch.calls (Go.bits .or .i64 a2_0 t177) (a1_0 != 0) t188 _ A25.out).mono ?_); rintro e w' ⟨rfl, ⟨nd, rfl⟩⟩; (try first | exact ⟨rfl, _, World.drewN_drewN _ _ _⟩ | exact ⟨rfl, _, Eq.trans (World.drewN_drewN _ _ _) (congrArg (World.drewN _) (Nat.add_assoc _ _ _))⟩)) | (go_at_call 27; (with_reducible refine (parity_Has.calls t188 a1_0 t189 _ A26.out).mono ?_); rintro e w' ⟨rfl, ⟨nd, rfl⟩⟩; (try first | exact ⟨rfl, _, World.drewN_drewN _ _ _⟩ | exact ⟨rfl, _, Eq.trans (World.drewN_drewN _ _ _) (congrArg (World.drewN _) (Nat.add_assoc _ _ _))⟩))); try go_wp2_with (first | (go_at_call 32; (with_reducible refine (parity_One.calls 2 (Go.bits .or .i64 a2_0 t177) t184 _ A19.out).mono ?_); rintro e w' ⟨rfl, ⟨nd, rfl⟩⟩; (try first | exact ⟨rfl, _, World.drewN_drewN _ _ _⟩ | exact ⟨rfl, _, Eq.trans (World.drewN_drewN _ _ _) (congrArg (World.drewN _) (Nat.add_assoc _ _ _))⟩)) | (go_at_call 27; (with_reducible refine (parity_Has.calls t184 a1_0 true _ A20.out).mono ?_); rintro e w' ⟨rfl, ⟨nd, rfl⟩⟩; (try first | exact ⟨rfl, _, World.drewN_drewN _ _ _⟩ | exact ⟨rfl, _, Eq.trans (World.drewN_drewN _ _ _) (congrArg (World.drewN _) (Nat.add_assoc _ _ _))⟩)) | (go_at_call 32; (with_reducible refine (parity_One.calls 3 (Go.bits .or .i64 a2_0 t177) t186 _ A22.out).mono ?_); rintro e w' ⟨rfl, ⟨nd, rfl⟩⟩; (try first | exact ⟨rfl, _, World.drewN_drewN _ _ _⟩ | exact ⟨rfl, _, Eq.trans (World.drewN_drewN _ _ _) (congrArg (World.drewN _) (Nat.add_assoc _ _ _))⟩)) | (go_at_call 27; (with_reducible refine (parity_Has.calls t186 (wrap64 (-a1_0)) true _ A23.out).mono ?_); rintro e w' ⟨rfl, ⟨nd, rfl⟩⟩; (try first | exact ⟨rfl, _, World.drewN_drewN _ _ _⟩ | exact ⟨rfl, _, Eq.trans (World.drewN_drewN _ _ _) (congrArg (World.drewN _) (Nat.add_assoc _ _ _))⟩)) | (go_at_call 36; (with_reducible refine (parity_Branch.calls (Go.bits .or .i64 a2_0 t177) (a1_0 != 0) t188 _ A25.out).mono ?_); rintro e w' ⟨rfl, ⟨nd, rfl⟩⟩; (try first | exact ⟨rfl, _, World.drewN_drewN _ _ _⟩ | exact ⟨rfl, _, Eq.trans (World.drewN_drewN _ _ _) (congrArg (World.drewN _) (Nat.add_assoc _ _ _))⟩)) | (go_at_call 27; (with_reducible refine (parity_Has.calls t188 a1_0 t189 _ A26.out).mono ?_); rintro e w' ⟨rfl, ⟨nd, rfl⟩⟩; (try first | exact ⟨rfl, _, World.drewN_drewN _ _ _⟩ | exact ⟨rfl, _, Eq.trans (World.drewN_drewN _ _ _) (congrArg (World.drewN _) (Nat.add_assoc _ _ _))⟩))))
            go_ret
            exact ⟨by first | rfl | (simp [errW_none, errW_some] <;> rfl) | (simp [*, errW_none, errW_some] <;> rfl), by repeat (first | (with_reducible first | exact HB.out | apply below_alloc | apply pw_below_drewN | apply below_drew1 | refine below_set ?_ GE175.out | refine below_set ?_ GE176.out) | exact HB.out)⟩
          · replace c24 := Bool.eq_false_iff.mpr c24
            subst c24
            have H1 : (some false) = some r := by rw [if_neg (show ¬ (false = true) by decide)] at H; exact H
            clear H
            have H := H1
            clear H1
            obtain rfl := Option.some.inj H
            go_wp2_with (first | (go_at_call 32; (with_reducible refine (parity_One.calls 2 (Go.bits .or .i64 a2_0 t177) t184 _ A19.out).mono ?_); rintro e w' ⟨rfl, ⟨nd, rfl⟩⟩; (try first | exact ⟨rfl, _, World.drewN_drewN _ _ _⟩ | exact ⟨rfl, _, Eq.trans (World.drewN_drewN _ _ _) (congrArg (World.drewN _) (Nat.add_assoc _ _ _))⟩)) | (go_at_call 27; (with_reducible refine (parity_Has.calls t184 a1_0 true _ A20.out).mono ?_); rintro e w' ⟨rfl, ⟨nd, rfl⟩⟩; (try first | exact ⟨rfl, _, World.drewN_drewN _ _ _⟩ | exact ⟨rfl, _, Eq.trans (World.drewN_drewN _ _ _) (congrArg (World.drewN _) (Nat.add_assoc _ _ _))⟩)) | (go_at_call 32; (with_reducible refine (parity_One.calls 3 (Go.bits .or .i64 a2_0 t177) t186 _ A22.out).mono ?_); rintro e w' ⟨rfl, ⟨nd, rfl⟩⟩; (try first | exact ⟨rfl, _, World.drewN_drewN _ _ _⟩ | exact ⟨rfl, _, Eq.trans (World.drewN_drewN _ _ _) (congrArg (World.drewN _) (Nat.add_assoc _ _ _))⟩)) | (go_at_call 27; (with_reducible refine (parity_Has.calls t186 (wrap64 (-a1_0)) false _ A23.out).mono ?_); rintro e w' ⟨rfl, ⟨nd, rfl⟩⟩; (try first | exact ⟨rfl, _, World.drewN_drewN _ _ _⟩ | exact ⟨rfl, _, Eq.trans (World.drewN_drewN _ _ _) (congrArg (World.drewN _) (Nat.add_assoc _ _ _))⟩)))
            repeat (go_quiet (first | (go_at_call 32; (with_reducible refine (parity_One.calls 2 (Go.bits .or .i64 a2_0 t177) t184 _ A19.out).mono ?_); rintro e w' ⟨rfl, ⟨nd, rfl⟩⟩; (try first | exact ⟨rfl, _, World.drewN_drewN _ _ _⟩ | exact ⟨rfl, _, Eq.trans (World.drewN_drewN _ _ _) (congrArg (World.drewN _) (Nat.add_assoc _ _ _))⟩)) | (go_at_call 27; (with_reducible refine (parity_Has.calls t184 a1_0 true _ A20.out).mono ?_); rintro e w' ⟨rfl, ⟨nd, rfl⟩⟩; (try first | exact ⟨rfl, _, World.drewN_drewN _ _ _⟩ | exact ⟨rfl, _, Eq.trans (World.drewN_drewN _ _ _) (congrArg (World.drewN _) (Nat.add_assoc _ _ _))⟩)) | (go_at_call 32; (with_reducible refine (parity_One.calls 3 (Go.bits .or .i64 a2_0 t177) t186 _ A22.out).mono ?_); rintro e w' ⟨rfl, ⟨nd, rfl⟩⟩; (try first | exact ⟨rfl, _, World.drewN_drewN _ _ _⟩ | exact ⟨rfl, _, Eq.trans (World.drewN_drewN _ _ _) (congrArg (World.drewN _) (Nat.add_assoc _ _ _))⟩)) | (go_at_call 27; (with_reducible refine (parity_Has.calls t186 (wrap64 (-a1_0)) false _ A23.out).mono ?_); rintro e w' ⟨rfl, ⟨nd, rfl⟩⟩; (try first | exact ⟨rfl, _, World.drewN_drewN _ _ _⟩ | exact ⟨rfl, _, Eq.trans (World.drewN_drewN _ _ _) (congrArg (World.drewN _) (Nat.add_assoc _ _ _))⟩))); try go_wp2_with (first | (go_at_call 32; (with_reducible refine (parity_One.calls 2 (Go.bits .or .i64 a2_0 t177) t184 _ A19.out).mono ?_); rintro e w' ⟨rfl, ⟨nd, rfl⟩⟩; (try first | exact ⟨rfl, _, World.drewN_drewN _ _ _⟩ | exact ⟨rfl, _, Eq.trans (World.drewN_drewN _ _ _) (congrArg (World.drewN _) (Nat.add_assoc _ _ _))⟩)) | (go_at_call 27; (with_reducible refine (parity_Has.calls t184 a1_0 true _ A20.out).mono ?_); rintro e w' ⟨rfl, ⟨nd, rfl⟩⟩; (try first | exact ⟨rfl, _, World.drewN_drewN _ _ _⟩ | exact ⟨rfl, _, Eq.trans (World.drewN_drewN _ _ _) (congrArg (World.drewN _) (Nat.add_assoc _ _ _))⟩)) | (go_at_call 32; (with_reducible refine (parity_One.calls 3 (Go.bits .or .i64 a2_0 t177) t186 _ A22.out).mono ?_); rintro e w' ⟨rfl, ⟨nd, rfl⟩⟩; (try first | exact ⟨rfl, _, World.drewN_drewN _ _ _⟩ | exact ⟨rfl, _, Eq.trans (World.drewN_drewN _ _ _) (congrArg (World.drewN _) (Nat.add_assoc _ _ _))⟩)) | (go_at_call 27; (with_reducible refine (parity_Has.calls t186 (wrap64 (-a1_0)) false _ A23.out).mono ?_); rintro e w' ⟨rfl, ⟨nd, rfl⟩⟩; (try first | exact ⟨rfl, _, World.drewN_drewN _ _ _⟩ | exact ⟨rfl, _, Eq.trans (World.drewN_drewN _ _ _) (congrArg (World.drewN _) (Nat.add_assoc _ _ _))⟩))))
            go_ret
            exact ⟨by first | rfl | (simp [errW_none, errW_some] <;> rfl) | (simp [*, errW_none, errW_some] <;> rfl), by repeat (first | (with_reducible first | exact HB.out | apply below_alloc | apply pw_below_drewN | apply below_drew1 | refine below_set ?_ GE175.out | refine below_set ?_ GE176.out) | exact HB.out)⟩
        · replace c21 := Bool.eq_false_iff.mpr c21
          subst c21
          have H1 : (some false) = some r := by rw [if_neg (show ¬ (false = true) by decide)] at H; exact H
          clear H
          have H := H1
          clear H1
          obtain rfl := Option.some.inj H
          go_wp2_with (first | (go_at_call 32; (with_reducible refine (parity_One.calls 2 (Go.bits .or .i64 a2_0 t177) t184 _ A19.out).mono ?_); rintro e w' ⟨rfl, ⟨nd, rfl⟩⟩; (try first | exact ⟨rfl, _, World.drewN_drewN _ _ _⟩ | exact ⟨rfl, _, Eq.trans (World.drewN_drewN _ _ _) (congrArg (World.drewN _) (Nat.add_assoc _ _ _))⟩)) | (go_at_call 27; (with_reducible refine (parity_Has.calls t184 a1_0 false _ A20.out).mono ?_); rintro e w' ⟨rfl, ⟨nd, rfl⟩⟩; (try first | exact ⟨rfl, _, World.drewN_drewN _ _ _⟩ | exact ⟨rfl, _, Eq.trans (World.drewN_drewN _ _ _) (congrArg (World.drewN _) (Nat.add_assoc _ _ _))⟩)))
          repeat (go_quiet (first | (go_at_call 32; (with_reducible refine (parity_One.calls 2 (Go.bits .or .i64 a2_0 t177) t184 _ A19.out).mono ?_); rintro e w' ⟨rfl, ⟨nd, rfl⟩⟩; (try first | exact ⟨rfl, _, World.drewN_drewN _ _ _⟩ | exact ⟨rfl, _, Eq.trans (World.drewN_drewN _ _ _) (congrArg (World.drewN _) (Nat.add_assoc _ _ _))⟩)) | (go_at_call 27; (with_reducible refine (parity_Has.calls t184 a1_0 false _ A20.out).mono ?_); rintro e w' ⟨rfl, ⟨nd, rfl⟩⟩; (try first | exact ⟨rfl, _, World.drewN_drewN _ _ _⟩ | exact ⟨rfl, _, Eq.trans (World.drewN_drewN _ _ _) (congrArg (World.drewN _) (Nat.add_assoc _ _ _))⟩))); try go_wp2_with (first | (go_at_call 32; (with_reducible refine (parity_One.calls 2 (Go.bits .or .i64 a2_0 t177) t184 _ A19.out).mono ?_); rintro e w' ⟨rfl, ⟨nd, rfl⟩⟩; (try first | exact ⟨rfl, _, World.drewN_drewN _ _ _⟩ | exact ⟨rfl, _, Eq.trans (World.drewN_drewN _ _ _) (congrArg (World.drewN _) (Nat.add_assoc _ _ _))⟩)) | (go_at_call 27; (with_reducible refine (parity_Has.calls t184 a1_0 false _ A20.out).mono ?_); rintro e w' ⟨rfl, ⟨nd, rfl⟩⟩; (try first | exact ⟨rfl, _, World.drewN_drewN _ _ _⟩ | exact ⟨rfl, _, Eq.trans (World.drewN_drewN _ _ _) (congrArg (World.drewN _) (Nat.add_assoc _ _ _))⟩))))
          go_ret
          exact ⟨by first | rfl | (simp [errW_none, errW_some] <;> rfl) | (simp [*, errW_none, errW_some] <;> rfl), by repeat (first | (with_reducible first | exact HB.out | apply below_alloc | apply pw_below_drewN | apply below_drew1 | refine below_set ?_ GE175.out | refine below_set ?_ GE176.out) | exact HB.out)⟩

end Go.Proofs.Ytiehdiohoehcpaa.PR
