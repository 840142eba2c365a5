-- Written by a program of this session: plain functions and their walks. Lean checks it.
import Derived.Test.YtiehdiohoehcpaaPR0
import Derived.Test.YtiehdiohoehcpaaPR2
namespace Go.Proofs.Ytiehdiohoehcpaa.PR
open Go.RowKit Go.Proofs.YtiehdiohoehcpaaW.PrintWords Go.Proofs.YtiehdiohoehcpaaW.PrintLast Go.Proofs.YtiehdiohoehcpaaW.PrintMore
attribute [local go_sem] max2_int min2_int max_two min_two max_three min_three max_four min_four   -- for this text's walks alone
set_option linter.unusedVariables false
set_option linter.unusedSimpArgs false

/-! ### avermentlaw11_told: function 23 -/
def avermentlaw11_told.f (k : Nat)  : Option (Bool) := (parity_Two.f k 6 2 2).bind fun t128 => (if t128 = 2 then ((parity_Branch.f 2 false).bind fun t129 => (if t129 = 0 then ((parity_Of.f (-3)).bind fun t130 => (if t130 = 2 then ((parity_Right.f 3).bind fun t131 => (if t131 = true then ((parity_Right.f 0).bind fun t132 => (some (!t132))) else (some false))) else (some false))) else (some false))) else (some false))
theorem avermentlaw11_told.mono : ∀ k, LeO (avermentlaw11_told.f k ) (avermentlaw11_told.f (k + 1) ) := by
  intro  k
  unfold avermentlaw11_told.f
  repeat' first
      | (with_reducible exact parity_Two.mono _ _ _ _)
      | (with_reducible exact LeO.refl _)
      | (with_reducible exact LeO.none _)
      | (with_reducible refine LeO.ite ?_ ?_)
      | (with_reducible refine LeO.bind ?_ (fun _ => ?_))
      | exact parity_Two.mono _ _ _ _
      | exact LeO.none _
      | refine LeO.ite ?_ ?_
      | refine LeO.bind ?_ (fun _ => ?_)
set_option maxHeartbeats 8000000 in
set_option maxRecDepth 100000 in
theorem avermentlaw11_told.calls (k : Nat)  (r : Bool) (w : World) (h : avermentlaw11_told.f k  = some r) :
    Calls Try.prog 23 #[] w fun e w' => e = .returned (.bool r) ∧ Drawn0 w w' := by
  have H : ((parity_Two.f k 6 2 2).bind fun t128 => (if t128 = 2 then ((parity_Branch.f 2 false).bind fun t129 => (if t129 = 0 then ((parity_Of.f (-3)).bind fun t130 => (if t130 = 2 then ((parity_Right.f 3).bind fun t131 => (if t131 = true then ((parity_Right.f 0).bind fun t132 => (some (!t132))) else (some false))) else (some false))) else (some false))) else (some false))) = some r := h
  clear h
  replace H := Option.bind_eq_some_iff.mp H
  obtain ⟨t128, A10, H⟩ := H
  replace H : (if t128 = 2 then ((parity_Branch.f 2 false).bind fun t129 => (if t129 = 0 then ((parity_Of.f (-3)).bind fun t130 => (if t130 = 2 then ((parity_Right.f 3).bind fun t131 => (if t131 = true then ((parity_Right.f 0).bind fun t132 => (some (!t132))) else (some false))) else (some false))) else (some false))) else (some false)) = some r := H
  have A1 := Aside0.mk A10
  clear A10
  by_cases c2 : t128 = 2
  · rw [if_pos c2] at H
    have c2b0 : (t128 == 2) = true := beq_iff_eq.mpr c2
    have c2b1 : (t128 != 2) = false := bne_eq_false_iff_eq.mpr c2
    clear c2
    replace H := Option.bind_eq_some_iff.mp H
    obtain ⟨t129, A30, H⟩ := H
    replace H : (if t129 = 0 then ((parity_Of.f (-3)).bind fun t130 => (if t130 = 2 then ((parity_Right.f 3).bind fun t131 => (if t131 = true then ((parity_Right.f 0).bind fun t132 => (some (!t132))) else (some false))) else (some false))) else (some false)) = some r := H
    have A3 := Aside0.mk A30
    clear A30
    by_cases c4 : t129 = 0
    · rw [if_pos c4] at H
      have c4b0 : (t129 == 0) = true := beq_iff_eq.mpr c4
      have c4b1 : (t129 != 0) = false := bne_eq_false_iff_eq.mpr c4
      clear c4
      replace H := Option.bind_eq_some_iff.mp H
      obtain ⟨t130, A50, H⟩ := H
      replace H : (if t130 = 2 then ((parity_Right.f 3).bind fun t131 => (if t131 = true then ((parity_Right.f 0).bind fun t132 => (some (!t132))) else (some false))) else (some false)) = some r := H
      have A5 := Aside0.mk A50
      clear A50
      by_cases c6 : t130 = 2
      · rw [if_pos c6] at H
        have c6b0 : (t130 == 2) = true := beq_iff_eq.mpr c6
        have c6b1 : (t130 != 2) = false := bne_eq_false_iff_eq.mpr c6
        clear c6
        replace H := Option.bind_eq_some_iff.mp H
        obtain ⟨t131, A70, H⟩ := H
        replace H : (if t131 = true then ((parity_Right.f 0).bind fun t132 => (some (!t132))) else (some false)) = some r := H
        have A7 := Aside0.mk A70
        clear A70
        by_cases c8 : t131 = true
        · subst c8
          have H1 : ((parity_Right.f 0).bind fun t132 => (some (!t132))) = some r := by rw [if_pos rfl] at H; exact H
          clear H
          have H := H1
          clear H1
          replace H := Option.bind_eq_some_iff.mp H
          obtain ⟨t132, A90, H⟩ := H
          replace H : (some (!t132)) = some r := H
          have A9 := Aside0.mk A90
          clear A90
          obtain rfl := Option.some.inj H
          go_enter Try.func23, Try.ntmps23
          go_wp2_with (first | ((with_reducible refine gate_callee (f := 34) rfl ?_); refine goesL_ (some 1) rfl rfl Try.func34 (by kernel_rfl) rfl #[.int .i64 6, .int .i64 2, .int .i64 2] rfl (by (try simp only [List.map_toArray, List.map_cons, List.map_nil]); first | done | rfl | (simp only [List.length_drop, List.length_take]; rfl)) ?_; (with_reducible refine (parity_Two.calls k 6 2 2 t128 _ A1.out).mono ?_); rintro e w' ⟨rfl, ⟨nd, rfl⟩⟩; refine ⟨_, rfl, ?_⟩) | (go_at_call 36; (with_reducible refine (parity_Branch.calls 2 false t129 _ A3.out).mono ?_); rintro e w' ⟨rfl, ⟨nd, rfl⟩⟩) | (go_at_call 25; (with_reducible refine (parity_Of.calls (-3) t130 _ A5.out).mono ?_); rintro e w' ⟨rfl, ⟨nd, rfl⟩⟩) | (go_at_call 24; (with_reducible refine (parity_Right.calls 3 true _ A7.out).mono ?_); rintro e w' ⟨rfl, ⟨nd, rfl⟩⟩) | (go_at_call 24; (with_reducible refine (parity_Right.calls 0 t132 _ A9.out).mono ?_); rintro e w' ⟨rfl, ⟨nd, rfl⟩⟩))
          go_ret
          exact ⟨by first | rfl | (simp; done) | (simp [*]; done), by repeat (first | exact Drawn0.refl _ | apply Drawn0.step)⟩
        · replace c8 := Bool.eq_false_iff.mpr c8
          subst c8
          have H1 : (some false) = some r := by rw [if_neg (show ¬ (false = true) by decide)] at H; exact H
          clear H
          have H := H1
          clear H1
          obtain rfl := Option.some.inj H
          go_enter Try.func23, Try.ntmps23
          go_wp2_with (first | ((with_reducible refine gate_callee (f := 34) rfl ?_); refine goesL_ (some 1) rfl rfl Try.func34 (by kernel_rfl) rfl #[.int .i64 6, .int .i64 2, .int .i64 2] rfl (by (try simp only [List.map_toArray, List.map_cons, List.map_nil]); first | done | rfl | (simp only [List.length_drop, List.length_take]; rfl)) ?_; (with_reducible refine (parity_Two.calls k 6 2 2 t128 _ A1.out).mono ?_); rintro e w' ⟨rfl, ⟨nd, rfl⟩⟩; refine ⟨_, rfl, ?_⟩) | (go_at_call 36; (with_reducible refine (parity_Branch.calls 2 false t129 _ A3.out).mono ?_); rintro e w' ⟨rfl, ⟨nd, rfl⟩⟩) | (go_at_call 25; (with_reducible refine (parity_Of.calls (-3) t130 _ A5.out).mono ?_); rintro e w' ⟨rfl, ⟨nd, rfl⟩⟩) | (go_at_call 24; (with_reducible refine (parity_Right.calls 3 false _ A7.out).mono ?_); rintro e w' ⟨rfl, ⟨nd, rfl⟩⟩))
          go_ret
          exact ⟨by first | rfl | (simp; done) | (simp [*]; done), by repeat (first | exact Drawn0.refl _ | apply Drawn0.step)⟩
      · rw [if_neg c6] at H
        have c6b0 : (t130 == 2) = false := beq_eq_false_iff_ne.mpr c6
        have c6b1 : (t130 != 2) = true := bne_iff_ne.mpr c6
        obtain rfl := Option.some.inj H
        go_enter Try.func23, Try.ntmps23
        go_wp2_with (first | ((with_reducible refine gate_callee (f := 34) rfl ?_); refine goesL_ (some 1) rfl rfl Try.func34 (by kernel_rfl) rfl #[.int .i64 6, .int .i64 2, .int .i64 2] rfl (by (try simp only [List.map_toArray, List.map_cons, List.map_nil]); first | done | rfl | (simp only [List.length_drop, List.length_take]; rfl)) ?_; (with_reducible refine (parity_Two.calls k 6 2 2 t128 _ A1.out).mono ?_); rintro e w' ⟨rfl, ⟨nd, rfl⟩⟩; refine ⟨_, rfl, ?_⟩) | (go_at_call 36; (with_reducible refine (parity_Branch.calls 2 false t129 _ A3.out).mono ?_); rintro e w' ⟨rfl, ⟨nd, rfl⟩⟩) | (go_at_call 25; (with_reducible refine (parity_Of.calls (-3) t130 _ A5.out).mono ?_); rintro e w' ⟨rfl, ⟨nd, rfl⟩⟩))
        go_ret
        exact ⟨by first | rfl | (simp; done) | (simp [*]; done), by repeat (first | exact Drawn0.refl _ | apply Drawn0.step)⟩
    · rw [if_neg c4] at H
      have c4b0 : (t129 == 0) = false := beq_eq_false_iff_ne.mpr c4
      have c4b1 : (t129 != 0) = true := bne_iff_ne.mpr c4
      obtain rfl := Option.some.inj H
      go_enter Try.func23, Try.ntmps23
      go_wp2_with (first | ((with_reducible refine gate_callee (f := 34) rfl ?_); refine goesL_ (some 1) rfl rfl Try.func34 (by kernel_rfl) rfl #[.int .i64 6, .int .i64 2, .int .i64 2] rfl (by (try simp only [List.map_toArray, List.map_cons, List.map_nil]); first | done | rfl | (simp only [List.length_drop, List.length_take]; rfl)) ?_; (with_reducible refine (parity_Two.calls k 6 2 2 t128 _ A1.out).mono ?_); rintro e w' ⟨rfl, ⟨nd, rfl⟩⟩; refine ⟨_, rfl, ?_⟩) | (go_at_call 36; (with_reducible refine (parity_Branch.calls 2 false t129 _ A3.out).mono ?_); rintro e w' ⟨rfl, ⟨nd, rfl⟩⟩))
      go_ret
      exact ⟨by first | rfl | (simp; done) | (simp [*]; done), by repeat (first | exact Drawn0.refl _ | apply Drawn0.step)⟩
  · rw [if_neg c2] at H
    have c2b0 : (t128 == 2) = false := beq_eq_false_iff_ne.mpr c2
    have c2b1 : (t128 != 2) = true := bne_iff_ne.mpr c2
    obtain rfl := Option.some.inj H
    go_enter Try.func23, Try.ntmps23
    go_wp2_with (first | ((with_reducible refine gate_callee (f := 34) rfl ?_); refine goesL_ (some 1) rfl rfl Try.func34 (by kernel_rfl) rfl #[.int .i64 6, .int .i64 2, .int .i64 2] rfl (by (try simp only [List.map_toArray, List.map_cons, List.map_nil]); first | done | rfl | (simp only [List.length_drop, List.length_take]; rfl)) ?_; (with_reducible refine (parity_Two.calls k 6 2 2 t128 _ A1.out).mono ?_); rintro e w' ⟨rfl, ⟨nd, rfl⟩⟩; refine ⟨_, rfl, ?_⟩))
    go_ret
    exact ⟨by first | rfl | (simp; done) | (simp [*]; done), by repeat (first | exact Drawn0.refl _ | apply Drawn0.step)⟩

/-! ### avermentref11_Of: function 26 -/
def avermentref11_Of.f (a0 : Int) : Option (Int) := if (Int.tmod a0 2) = 0 then (some 1) else (some 2)
set_option maxHeartbeats 8000000 in
set_option maxRecDepth 100000 in
theorem avermentref11_Of.calls (a0 : Int) (r : Int) (w : World) (h : avermentref11_Of.f a0 = some r) :
    Calls Try.prog 26 #[.int .i64 a0] w fun e w' => e = .returned (.int .i64 r) ∧ Drawn0 w w' := by
  have H : (if (Int.tmod a0 2) = 0 then (some 1) else (some 2)) = some r := h
  clear h
  by_cases c2 : (Int.tmod a0 2) = 0
  · rw [if_pos c2] at H
    have c2b0 : ((Int.tmod a0 2) == 0) = true := beq_iff_eq.mpr c2
    have c2b1 : ((Int.tmod a0 2) != 0) = false := bne_eq_false_iff_eq.mpr c2
    clear c2
    obtain rfl := Option.some.inj H
    go_enter Try.func26, Try.ntmps26
    go_wp2
    go_ret
    exact ⟨by first | rfl | (simp; done) | (simp [*]; done), by repeat (first | exact Drawn0.refl _ | apply Drawn0.step)⟩
  · rw [if_neg c2] at H
    have c2b0 : ((Int.tmod a0 2) == 0) = false := beq_eq_false_iff_ne.mpr c2
    have c2b1 : ((Int.tmod a0 2) != 0) = true := bne_iff_ne.mpr c2
    obtain rfl := Option.some.inj H
    go_enter Try.func26, Try.ntmps26
    go_wp2
    go_ret
    exact ⟨by first | rfl | (simp; done) | (simp [*]; done), by repeat (first | exact Drawn0.refl _ | apply Drawn0.step)⟩

/-! ### parity_Has: function 27 -/
def parity_Has.f (a0 : Int) (a1 : Int) : Option (Bool) := (parity_Of.f a1).bind fun t133 => (some ((Go.bits .and .i64 a0 t133) != 0))
set_option maxHeartbeats 8000000 in
set_option maxRecDepth 100000 in
theorem parity_Has.calls (a0 : Int) (a1 : Int) (r : Bool) (w : World) (h : parity_Has.f a0 a1 = some r) :
    Calls Try.prog 27 #[.int .i64 a0, .int .i64 a1] w fun e w' => e = .returned (.bool r) ∧ Drawn0 w w' := by
  have H : ((parity_Of.f a1).bind fun t133 => (some ((Go.bits .and .i64 a0 t133) != 0))) = some r := h
  clear h
  replace H := Option.bind_eq_some_iff.mp H
  obtain ⟨t133, A30, H⟩ := H
  replace H : (some ((Go.bits .and .i64 a0 t133) != 0)) = some r := H
  have A3 := Aside0.mk A30
  clear A30
  obtain rfl := Option.some.inj H
  go_enter Try.func27, Try.ntmps27
  go_wp2_with (first | ((with_reducible refine gate_callee (f := 25) rfl ?_); refine goesL_ (some 7) rfl rfl Try.func25 (by kernel_rfl) rfl #[.int .i64 a1] rfl (by (try simp only [List.map_toArray, List.map_cons, List.map_nil]); first | done | rfl | (simp only [List.length_drop, List.length_take]; rfl)) ?_; (with_reducible refine (parity_Of.calls a1 t133 _ A3.out).mono ?_); rintro e w' ⟨rfl, ⟨nd, rfl⟩⟩; refine ⟨_, rfl, ?_⟩))
  go_ret
  exact ⟨by first | rfl | (simp; done) | (simp [*]; done), by repeat (first | exact Drawn0.refl _ | apply Drawn0.step)⟩

/-! ### avermentref11_Has: function 28 -/
def avermentref11_Has.f (a0 : Int) (a1 : Int) : Option (Bool) := (avermentref11_Of.f a1).bind fun t134 => (some ((Go.bits .and .i64 a0 t134) != 0))
set_option maxHeartbeats 8000000 in
set_option maxRecDepth 100000 in
theorem avermentref11_Has.calls (a0 : Int) (a1 : Int) (r : Bool) (w : World) (h : avermentref11_Has.f a0 a1 = some r) :
    Calls Try.prog 28 #[.int .i64 a0, .int .i64 a1] w fun e w' => e = .returned (.bool r) ∧ Drawn0 w w' := by
  have H : ((avermentref11_Of.f a1).bind fun t134 => (some ((Go.bits .and .i64 a0 t134) != 0))) = some r := h
  clear h
  replace H := Option.bind_eq_some_iff.mp H
  obtain ⟨t134, A30, H⟩ := H
  replace H : (some ((Go.bits .and .i64 a0 t134) != 0)) = some r := H
  have A3 := Aside0.mk A30
  clear A30
  obtain rfl := Option.some.inj H
  go_enter Try.func28, Try.ntmps28
  go_wp2_with (first | ((with_reducible refine gate_callee (f := 26) rfl ?_); refine goesL_ (some 7) rfl rfl Try.func26 (by kernel_rfl) rfl #[.int .i64 a1] rfl (by (try simp only [List.map_toArray, List.map_cons, List.map_nil]); first | done | rfl | (simp only [List.length_drop, List.length_take]; rfl)) ?_; (with_reducible refine (avermentref11_Of.calls a1 t134 _ A3.out).mono ?_); rintro e w' ⟨rfl, ⟨nd, rfl⟩⟩; refine ⟨_, rfl, ?_⟩))
  go_ret
  exact ⟨by first | rfl | (simp; done) | (simp [*]; done), by repeat (first | exact Drawn0.refl _ | apply Drawn0.step)⟩

/-! ### parity_Join: function 29 -/
def parity_Join.f (a0 : Int) (a1 : Int) : Option (Int) := some (Go.bits .and .i64 (Go.bits .or .i64 a0 a1) 3)
set_option maxHeartbeats 8000000 in
set_option maxRecDepth 100000 in
theorem parity_Join.calls (a0 : Int) (a1 : Int) (r : Int) (w : World) (h : parity_Join.f a0 a1 = some r) :
    Calls Try.prog 29 #[.int .i64 a0, .int .i64 a1] w fun e w' => e = .returned (.int .i64 r) ∧ Drawn0 w w' := by
  have H : (some (Go.bits .and .i64 (Go.bits .or .i64 a0 a1) 3)) = some r := h
  clear h
  obtain rfl := Option.some.inj H
  go_enter Try.func29, Try.ntmps29
  go_wp2
  go_ret
  exact ⟨by first | rfl | (simp; done) | (simp [*]; done), by repeat (first | exact Drawn0.refl _ | apply Drawn0.step)⟩

/-! ### parity_Meet: function 30 -/
def parity_Meet.f (a0 : Int) (a1 : Int) : Option (Int) := some (Go.bits .and .i64 (Go.bits .and .i64 a0 a1) 3)
set_option maxHeartbeats 8000000 in
set_option maxRecDepth 100000 in
theorem parity_Meet.calls (a0 : Int) (a1 : Int) (r : Int) (w : World) (h : parity_Meet.f a0 a1 = some r) :
    Calls Try.prog 30 #[.int .i64 a0, .int .i64 a1] w fun e w' => e = .returned (.int .i64 r) ∧ Drawn0 w w' := by
  have H : (some (Go.bits .and .i64 (Go.bits .and .i64 a0 a1) 3)) = some r := h
  clear h
  obtain rfl := Option.some.inj H
  go_enter Try.func30, Try.ntmps30
  go_wp2
  go_ret
  exact ⟨by first | rfl | (simp; done) | (simp [*]; done), by repeat (first | exact Drawn0.refl _ | apply Drawn0.step)⟩

/-! ### parity_Within: function 31 -/
def parity_Within.f (a0 : Int) (a1 : Int) : Option (Bool) := some ((Go.bits .and .i64 (Go.bits .andNot .i64 a0 a1) 3) == 0)
set_option maxHeartbeats 8000000 in
set_option maxRecDepth 100000 in
theorem parity_Within.calls (a0 : Int) (a1 : Int) (r : Bool) (w : World) (h : parity_Within.f a0 a1 = some r) :
    Calls Try.prog 31 #[.int .i64 a0, .int .i64 a1] w fun e w' => e = .returned (.bool r) ∧ Drawn0 w w' := by
  have H : (some ((Go.bits .and .i64 (Go.bits .andNot .i64 a0 a1) 3) == 0)) = some r := h
  clear h
  obtain rfl := Option.some.inj H
  go_enter Try.func31, Try.ntmps31
  go_wp2
  go_ret
  exact ⟨by first | rfl | (simp; done) | (simp [*]; done), by repeat (first | exact Drawn0.refl _ | apply Drawn0.step)⟩

/-! ### avermentlaw11_ParitySets: function 4 -/
def avermentlaw11_ParitySets.f (k : Nat) (a0 : Int) (a1 : Int) (a2 : Int) : Option (Bool) := (avermentlaw11_told.f k).bind fun t135 => (if t135 = true then ((parity_Right.f a0).bind fun t136 => (if a0 ≥ 1 then (if (t136 == (decide (a0 ≤ 3))) = true then ((parity_Of.f a2).bind fun t137 => ((avermentref11_Of.f a2).bind fun t138 => (if t137 = t138 then ((parity_Has.f a0 a2).bind fun t139 => ((avermentref11_Has.f (Go.bits .and .i64 a0 3) a2).bind fun t140 => (if (t139 == t140) = true then ((parity_Join.f a0 a1).bind fun t141 => (if t141 = (Go.bits .or .i64 (Go.bits .and .i64 a0 3) (Go.bits .and .i64 a1 3)) then ((parity_Meet.f a0 a1).bind fun t142 => (if t142 = (Go.bits .and .i64 (Go.bits .and .i64 a0 3) (Go.bits .and .i64 a1 3)) then ((parity_Within.f a0 a1).bind fun t143 => (some (t143 == ((Go.bits .or .i64 (Go.bits .and .i64 a0 3) (Go.bits .and .i64 a1 3)) == (Go.bits .and .i64 a1 3))))) else (some false))) else (some false))) else (some false)))) else (some false)))) else (some false)) else (if (t136 == false) = true then ((parity_Of.f a2).bind fun t144 => ((avermentref11_Of.f a2).bind fun t145 => (if t144 = t145 then ((parity_Has.f a0 a2).bind fun t146 => ((avermentref11_Has.f (Go.bits .and .i64 a0 3) a2).bind fun t147 => (if (t146 == t147) = true then ((parity_Join.f a0 a1).bind fun t148 => (if t148 = (Go.bits .or .i64 (Go.bits .and .i64 a0 3) (Go.bits .and .i64 a1 3)) then ((parity_Meet.f a0 a1).bind fun t149 => (if t149 = (Go.bits .and .i64 (Go.bits .and .i64 a0 3) (Go.bits .and .i64 a1 3)) then ((parity_Within.f a0 a1).bind fun t150 => (some (t150 == ((Go.bits .or .i64 (Go.bits .and .i64 a0 3) (Go.bits .and .i64 a1 3)) == (Go.bits .and .i64 a1 3))))) else (some false))) else (some false))) else (some false)))) else (some false)))) else (some false)))) else (some false))
theorem avermentlaw11_ParitySets.mono : ∀ a0 a1 a2 k, LeO (avermentlaw11_ParitySets.f k a0 a1 a2) (avermentlaw11_ParitySets.f (k + 1) a0 a1 a2) := by
  intro a0 a1 a2 k
  unfold avermentlaw11_ParitySets.f
  repeat' first
      | (with_reducible exact avermentlaw11_told.mono _)
      | (with_reducible exact LeO.refl _)
      | (with_reducible exact LeO.none _)
      | (with_reducible refine LeO.ite ?_ ?_)
      | (with_reducible refine LeO.bind ?_ (fun _ => ?_))
      | exact avermentlaw11_told.mono _
      | exact LeO.none _
      | refine LeO.ite ?_ ?_
      | refine LeO.bind ?_ (fun _ => ?_)
set_option maxHeartbeats 8000000 in
set_option maxRecDepth 100000 in
theorem avermentlaw11_ParitySets.calls (k : Nat) (a0 : Int) (a1 : Int) (a2 : Int) (r : Bool) (w : World) (h : avermentlaw11_ParitySets.f k a0 a1 a2 = some r) :
    Calls Try.prog 4 #[.int .i64 a0, .int .i64 a1, .int .i64 a2] w fun e w' => e = .returned (.bool r) ∧ Drawn0 w w' := by
  have H : ((avermentlaw11_told.f k).bind fun t135 => (if t135 = true then ((parity_Right.f a0).bind fun t136 => (if a0 ≥ 1 then (if (t136 == (decide (a0 ≤ 3))) = true then ((parity_Of.f a2).bind fun t137 => ((avermentref11_Of.f a2).bind fun t138 => (if t137 = t138 then ((parity_Has.f a0 a2).bind fun t139 => ((avermentref11_Has.f (Go.bits .and .i64 a0 3) a2).bind fun t140 => (if (t139 == t140) = true then ((parity_Join.f a0 a1).bind fun t141 => (if t141 = (Go.bits .or .i64 (Go.bits .and .i64 a0 3) (Go.bits .and .i64 a1 3)) then ((parity_Meet.f a0 a1).bind fun t142 => (if t142 = (Go.bits .and .i64 (Go.bits .and .i64 a0 3) (Go.bits .and .i64 a1 3)) then ((parity_Within.f a0 a1).bind fun t143 => (some (t143 == ((Go.bits .or .i64 (Go.bits .and .i64 a0 3) (Go.bits .and .i64 a1 3)) == (Go.bits .and .i64 a1 3))))) else (some false))) else (some false))) else (some false)))) else (some false)))) else (some false)) else (if (t136 == false) = true then ((parity_Of.f a2).bind fun t144 => ((avermentref11_Of.f a2).bind fun t145 => (if t144 = t145 then ((parity_Has.f a0 a2).bind fun t146 => ((avermentref11_Has.f (Go.bits .and .i64 a0 3) a2).bind fun t147 => (if (t146 == t147) = true then ((parity_Join.f a0 a1).bind fun t148 => (if t148 = (Go.bits .or .i64 (Go.bits .and .i64 a0 3) (Go.bits .and .i64 a1 3)) then ((parity_Meet.f a0 a1).bind fun t149 => (if t149 = (Go.bits .and .i64 (Go.bits .and .i64 a0 3) (Go.bits .and .i64 a1 3)) then ((parity_Within.f a0 a1).bind fun t150 => (some (t150 == ((Go.bits .or .i64 (Go.bits .and .i64 a0 3) (Go.bits .and .i64 a1 3)) == (Go.bits .and .i64 a1 3))))) else (some false))) else (some false))) else (some false)))) else (some false)))) else (some false)))) else (some false))) = some r := h
  clear h
  replace H := Option.bind_eq_some_iff.mp H
  obtain ⟨t135, A40, H⟩ := H
  replace H : (if t135 = true then ((parity_Right.f a0).bind fun t136 => (if a0 ≥ 1 then (if (t136 == (decide (a0 ≤ 3))) = true then ((parity_Of.f a2).bind fun t137 => ((avermentref11_Of.f a2).bind fun t138 => (if t137 = t138 then ((parity_Has.f a0 a2).bind fun t139 => ((avermentref11_Has.f (Go.bits .and .i64 a0 3) a2).bind fun t140 => (if (t139 == t140) = true then ((parity_Join.f a0 a1).bind fun t141 => (if t141 = (Go.bits .or .i64 (Go.bits .and .i64 a0 3) (Go.bits .and .i64 a1 3)) then ((parity_Meet.f a0 a1).bind fun t142 => (if t142 = (Go.bits .and .i64 (Go.bits .and .i64 a0 3) (Go.bits .and .i64 a1 3)) then ((parity_Within.f a0 a1).bind fun t143 => (some (t143 == ((Go.bits .or .i64 (Go.bits .and .i64 a0 3) (Go.bits .and .i64 a1 3)) == (Go.bits .and .i64 a1 3))))) else (some false))) else (some false))) else (some false)))) else (some false)))) else (some false)) else (if (t136 == false) = true then ((parity_Of.f a2).bind fun t144 => ((avermentref11_Of.f a2).bind fun t145 => (if t144 = t145 then ((parity_Has.f a0 a2).bind fun t146 => ((avermentref11_Has.f (Go.bits .and .i64 a0 3) a2).bind fun t147 => (if (t146 == t147) = true then ((parity_Join.f a0 a1).bind fun t148 => (if t148 = (Go.bits .or .i64 (Go.bits .and .i64 a0 3) (Go.bits .and .i64 a1 3)) then ((parity_Meet.f a0 a1).bind fun t149 => (if t149 = (Go.bits .and .i64 (Go.bits .and .i64 a0 3) (Go.bits .and .i64 a1 3)) then ((parity_Within.f a0 a1).bind fun t150 => (some (t150 == ((Go.bits .or .i64 (Go.bits .and .i64 a0 3) (Go.bits .and .i64 a1 3)) == (Go.bits .and .i64 a1 3))))) else (some false))) else (some false))) else (some false)))) else (some false)))) else (some false)))) else (some false)) = some r := H
  have A4 := Aside0.mk A40
  clear A40
  by_cases c5 : t135 = true
  · subst c5
    have H1 : ((parity_Right.f a0).bind fun t136 => (if a0 ≥ 1 then (if (t136 == (decide (a0 ≤ 3))) = true then ((parity_Of.f a2).bind fun t137 => ((avermentref11_Of.f a2).bind fun t138 => (if t137 = t138 then ((parity_Has.f a0 a2).bind fun t139 => ((avermentref11_Has.f (Go.bits .and .i64 a0 3) a2).bind fun t140 => (if (t139 == t140) = true then ((parity_Join.f a0 a1).bind fun t141 => (if t141 = (Go.bits .or .i64 (Go.bits .and .i64 a0 3) (Go.bits .and .i64 a1 3)) then ((parity_Meet.f a0 a1).bind fun t142 => (if t142 = (Go.bits .and .i64 (Go.bits .and .i64 a0 3) (Go.bits .and .i64 a1 3)) then ((parity_Within.f a0 a1).bind fun t143 => (some (t143 == ((Go.bits .or .i64 (Go.bits .and .i64 a0 3) (Go.bits .and .i64 a1 3)) == (Go.bits .and .i64 a1 3))))) else (some false))) else (some false))) else (some false)))) else (some false)))) else (some false)) else (if (t136 == false) = true then ((parity_Of.f a2).bind fun t144 => ((avermentref11_Of.f a2).bind fun t145 => (if t144 = t145 then ((parity_Has.f a0 a2).bind fun t146 => ((avermentref11_Has.f (Go.bits .and .i64 a0 3) a2).bind fun t147 => (if (t146 == t147) = true then ((parity_Join.f a0 a1).bind fun t148 => (if t148 = (Go.bits .or .i64 (Go.bits .and .i64 a0 3) (Go.bits .and .i64 a1 3)) then ((parity_Meet.f a0 a1).bind fun t149 => (if t149 = (Go.bits .and .i64 (Go.bits .and .i64 a0 3) (Go.bits .and .i64 a1 3)) then ((parity_Within.f a0 a1).bind fun t150 => (some (t150 == ((Go.bits .or .i64 (Go.bits .and .i64 a0 3) (Go.bits .and .i64 a1 3)) == (Go.bits .and .i64 a1 3))))) else (some false))) else (some false))) else (some false)))) else (some false)))) else (some false)))) = some r := by rw [if_pos rfl] at H; exact H
    clear H
    have H := H1
    clear H1
    replace H := Option.bind_eq_some_iff.mp H
    obtain ⟨t136, A60, H⟩ := H
    replace H : (if a0 ≥ 1 then (if (t136 == (decide (a0 ≤ 3))) = true then ((parity_Of.f a2).bind fun t137 => ((avermentref11_Of.f a2).bind fun t138 => (if t137 = t138 then ((parity_Has.f a0 a2).bind fun t139 => ((avermentref11_Has.f (Go.bits .and .i64 a0 3) a2).bind fun t140 => (if (t139 == t140) = true then ((parity_Join.f a0 a1).bind fun t141 => (if t141 = (Go.bits .or .i64 (Go.bits .and .i64 a0 3) (Go.bits .and .i64 a1 3)) then ((parity_Meet.f a0 a1).bind fun t142 => (if t142 = (Go.bits .and .i64 (Go.bits .and .i64 a0 3) (Go.bits .and .i64 a1 3)) then ((parity_Within.f a0 a1).bind fun t143 => (some (t143 == ((Go.bits .or .i64 (Go.bits .and .i64 a0 3) (Go.bits .and .i64 a1 3)) == (Go.bits .and .i64 a1 3))))) else (some false))) else (some false))) else (some false)))) else (some false)))) else (some false)) else (if (t136 == false) = true then ((parity_Of.f a2).bind fun t144 => ((avermentref11_Of.f a2).bind fun t145 => (if t144 = t145 then ((parity_Has.f a0 a2).bind fun t146 => ((avermentref11_Has.f (Go.bits .and .i64 a0 3) a2).bind fun t147 => (if (t146 == t147) = true then ((parity_Join.f a0 a1).bind fun t148 => (if t148 = (Go.bits .or .i64 (Go.bits .and .i64 a0 3) (Go.bits .and .i64 a1 3)) then ((parity_Meet.f a0 a1).bind fun t149 => (if t149 = (Go.bits .and .i64 (Go.bits .and .i64 a0 3) (Go.bits .and .i64 a1 3)) then ((parity_Within.f a0 a1).bind fun t150 => (some (t150 == ((Go.bits .or .i64 (Go.bits .and .i64 a0 3) (Go.bits .and .i64 a1 3)) == (Go.bits .and .i64 a1 3))))) else (some false))) else (some false))) else (some false)))) else (some false)))) else (some false))) = some r := H
    have A6 := Aside0.mk A60
    clear A60
    by_cases c7 : a0 ≥ 1
    · rw [if_pos c7] at H
      have c7b0 : decide (1 ≤ a0) = true := decide_eq_true c7
      clear c7
      by_cases c8 : (t136 == (decide (a0 ≤ 3))) = true
      · rw [if_pos c8] at H
        have c8b0 : (t136 == (decide (a0 ≤ 3))) = true := c8
        (try (have c8b1 : decide (t136 = (decide (a0 ≤ 3))) = true := by simpa using c8))
        (try (have c8b2 : (t136 == (decide (a0 ≤ 3))) = true := by simpa using c8))
        clear c8
        replace H := Option.bind_eq_some_iff.mp H
        obtain ⟨t137, A90, H⟩ := H
        replace H : ((avermentref11_Of.f a2).bind fun t138 => (if t137 = t138 then ((parity_Has.f a0 a2).bind fun t139 => ((avermentref11_Has.f (Go.bits .and .i64 a0 3) a2).bind fun t140 => (if (t139 == t140) = true then ((parity_Join.f a0 a1).bind fun t141 => (if t141 = (Go.bits .or .i64 (Go.bits .and .i64 a0 3) (Go.bits .and .i64 a1 3)) then ((parity_Meet.f a0 a1).bind fun t142 => (if t142 = (Go.bits .and .i64 (Go.bits .and .i64 a0 3) (Go.bits .and .i64 a1 3)) then ((parity_Within.f a0 a1).bind fun t143 => (some (t143 == ((Go.bits .or .i64 (Go.bits .and .i64 a0 3) (Go.bits .and .i64 a1 3)) == (Go.bits .and .i64 a1 3))))) else (some false))) else (some false))) else (some false)))) else (some false))) = some r := H
        have A9 := Aside0.mk A90
        clear A90
        replace H := Option.bind_eq_some_iff.mp H
        obtain ⟨t138, A100, H⟩ := H
        replace H : (if t137 = t138 then ((parity_Has.f a0 a2).bind fun t139 => ((avermentref11_Has.f (Go.bits .and .i64 a0 3) a2).bind fun t140 => (if (t139 == t140) = true then ((parity_Join.f a0 a1).bind fun t141 => (if t141 = (Go.bits .or .i64 (Go.bits .and .i64 a0 3) (Go.bits .and .i64 a1 3)) then ((parity_Meet.f a0 a1).bind fun t142 => (if t142 = (Go.bits .and .i64 (Go.bits .and .i64 a0 3) (Go.bits .and .i64 a1 3)) then ((parity_Within.f a0 a1).bind fun t143 => (some (t143 == ((Go.bits .or .i64 (Go.bits .and .i64 a0 3) (Go.bits .and .i64 a1 3)) == (Go.bits .and .i64 a1 3))))) else (some false))) else (some false))) else (some false)))) else (some false)) = some r := H
        have A10 := Aside0.mk A100
        clear A100
        by_cases c11 : t137 = t138
        · rw [if_pos c11] at H
          have c11b0 : (t137 == t138) = true := beq_iff_eq.mpr c11
          have c11b1 : (t137 != t138) = false := bne_eq_false_iff_eq.mpr c11
          clear c11
          replace H := Option.bind_eq_some_iff.mp H
          obtain ⟨t139, A120, H⟩ := H
          replace H : ((avermentref11_Has.f (Go.bits .and .i64 a0 3) a2).bind fun t140 => (if (t139 == t140) = true then ((parity_Join.f a0 a1).bind fun t141 => (if t141 = (Go.bits .or .i64 (Go.bits .and .i64 a0 3) (Go.bits .and .i64 a1 3)) then ((parity_Meet.f a0 a1).bind fun t142 => (if t142 = (Go.bits .and .i64 (Go.bits .and .i64 a0 3) (Go.bits .and .i64 a1 3)) then ((parity_Within.f a0 a1).bind fun t143 => (some (t143 == ((Go.bits .or .i64 (Go.bits .and .i64 a0 3) (Go.bits .and .i64 a1 3)) == (Go.bits .and .i64 a1 3))))) else (some false))) else (some false))) else (some false))) = some r := H
          have A12 := Aside0.mk A120
          clear A120
          replace H := Option.bind_eq_some_iff.mp H
          obtain ⟨t140, A130, H⟩ := H
          replace H : (if (t139 == t140) = true then ((parity_Join.f a0 a1).bind fun t141 => (if t141 = (Go.bits .or .i64 (Go.bits .and .i64 a0 3) (Go.bits .and .i64 a1 3)) then ((parity_Meet.f a0 a1).bind fun t142 => (if t142 = (Go.bits .and .i64 (Go.bits .and .i64 a0 3) (Go.bits .and .i64 a1 3)) then ((parity_Within.f a0 a1).bind fun t143 => (some (t143 == ((Go.bits .or .i64 (Go.bits .and .i64 a0 3) (Go.bits .and .i64 a1 3)) == (Go.bits .and .i64 a1 3))))) else (some false))) else (some false))) else (some false)) = some r := H
          have A13 := Aside0.mk A130
          clear A130
          by_cases c14 : (t139 == t140) = true
          · rw [if_pos c14] at H
            have c14b0 : (t139 == t140) = true := c14
            (try (have c14b1 : decide (t139 = t140) = true := by simpa using c14))
            (try (have c14b2 : (t139 == t140) = true := by simpa using c14))
            clear c14
            replace H := Option.bind_eq_some_iff.mp H
            obtain ⟨t141, A150, H⟩ := H
            replace H : (if t141 = (Go.bits .or .i64 (Go.bits .and .i64 a0 3) (Go.bits .and .i64 a1 3)) then ((parity_Meet.f a0 a1).bind fun t142 => (if t142 = (Go.bits .and .i64 (Go.bits .and .i64 a0 3) (Go.bits .and .i64 a1 3)) then ((parity_Within.f a0 a1).bind fun t143 => (some (t143 == ((Go.bits .or .i64 (Go.bits .and .i64 a0 3) (Go.bits .and .i64 a1 3)) == (Go.bits .and .i64 a1 3))))) else (some false))) else (some false)) = some r := H
            have A15 := Aside0.mk A150
            clear A150
            by_cases c16 : t141 = (Go.bits .or .i64 (Go.bits .and .i64 a0 3) (Go.bits .and .i64 a1 3))
            · rw [if_pos c16] at H
              have c16b0 : (t141 == (Go.bits .or .i64 (Go.bits .and .i64 a0 3) (Go.bits .and .i64 a1 3))) = true := beq_iff_eq.mpr c16
              have c16b1 : (t141 != (Go.bits .or .i64 (Go.bits .and .i64 a0 3) (Go.bits .and .i64 a1 3))) = false := bne_eq_false_iff_eq.mpr c16
              clear c16
              replace H := Option.bind_eq_some_iff.mp H
              obtain ⟨t142, A170, H⟩ := H
              replace H : (if t142 = (Go.bits .and .i64 (Go.bits .and .i64 a0 3) (Go.bits .and .i64 a1 3)) then ((parity_Within.f a0 a1).bind fun t143 => (some (t143 == ((Go.bits .or .i64 (Go.bits .and .i64 a0 3) (Go.bits .and .i64 a1 3)) == (Go.bits .and .i64 a1 3))))) else (some false)) = some r := H
              have A17 := Aside0.mk A170
              clear A170
              by_cases c18 : t142 = (Go.bits .and .i64 (Go.bits .and .i64 a0 3) (Go.bits .and .i64 a1 3))
              · rw [if_pos c18] at H
                have c18b0 : (t142 == (Go.bits .and .i64 (Go.bits .and .i64 a0 3) (Go.bits .and .i64 a1 3))) = true := beq_iff_eq.mpr c18
                have c18b1 : (t142 != (Go.bits .and .i64 (Go.bits .and .i64 a0 3) (Go.bits .and .i64 a1 3))) = false := bne_eq_false_iff_eq.mpr c18
                clear c18
                replace H := Option.bind_eq_some_iff.mp H
                obtain ⟨t143, A190, H⟩ := H
                replace H : (some (t143 == ((Go.bits .or .i64 (Go.bits .and .i64 a0 3) (Go.bits .and .i64 a1 3)) == (Go.bits .and .i64 a1 3)))) = some r := H
                have A19 := Aside0.mk A190
                clear A190
                obtain rfl := Option.some.inj H
                go_enter Try.func4, Try.ntmps4
                go_wp2_with (first | ((with_reducible refine gate_callee (f := 23) rfl ?_); refine goesL_ (some 13) rfl rfl Try.func23 (by kernel_rfl) rfl #[] rfl (by (try simp only [List.map_toArray, List.map_cons, List.map_nil]); first | done | rfl | (simp only [List.length_drop, List.length_take]; rfl)) ?_; (with_reducible refine (avermentlaw11_told.calls k  true _ A4.out).mono ?_); rintro e w' ⟨rfl, ⟨nd, rfl⟩⟩; refine ⟨_, rfl, ?_⟩) | (go_at_call 24; (with_reducible refine (parity_Right.calls a0 t136 _ A6.out).mono ?_); rintro e w' ⟨rfl, ⟨nd, rfl⟩⟩) | (go_at_call 25; (with_reducible refine (parity_Of.calls a2 t137 _ A9.out).mono ?_); rintro e w' ⟨rfl, ⟨nd, rfl⟩⟩) | (go_at_call 26; (with_reducible refine (avermentref11_Of.calls a2 t138 _ A10.out).mono ?_); rintro e w' ⟨rfl, ⟨nd, rfl⟩⟩) | (go_at_call 27; (with_reducible refine (parity_Has.calls a0 a2 t139 _ A12.out).mono ?_); rintro e w' ⟨rfl, ⟨nd, rfl⟩⟩) | (go_at_call 28; (with_reducible refine (avermentref11_Has.calls (Go.bits .and .i64 a0 3) a2 t140 _ A13.out).mono ?_); rintro e w' ⟨rfl, ⟨nd, rfl⟩⟩) | (go_at_call 29; (with_reducible refine (parity_Join.calls a0 a1 t141 _ A15.out).mono ?_); rintro e w' ⟨rfl, ⟨nd, rfl⟩⟩) | (go_at_call 30; (with_reducible refine (parity_Meet.calls a0 a1 t142 _ A17.out).mono ?_); rintro e w' ⟨rfl, ⟨nd, rfl⟩⟩) | (go_at_call 31; (with_reducible refine (parity_Within.calls a0 a1 t143 _ A19.out).mono ?_); rintro e w' ⟨rfl, ⟨nd, rfl⟩⟩))
                go_ret
                exact ⟨by first | rfl | (simp; done) | (simp [*]; done), by repeat (first | exact Drawn0.refl _ | apply Drawn0.step)⟩
              · rw [if_neg c18] at H
                have c18b0 : (t142 == (Go.bits .and .i64 (Go.bits .and .i64 a0 3) (Go.bits .and .i64 a1 3))) = false := beq_eq_false_iff_ne.mpr c18
                have c18b1 : (t142 != (Go.bits .and .i64 (Go.bits .and .i64 a0 3) (Go.bits .and .i64 a1 3))) = true := bne_iff_ne.mpr c18
                obtain rfl := Option.some.inj H
                go_enter Try.func4, Try.ntmps4
                go_wp2_with (first | ((with_reducible refine gate_callee (f := 23) rfl ?_); refine goesL_ (some 13) rfl rfl Try.func23 (by kernel_rfl) rfl #[] rfl (by (try simp only [List.map_toArray, List.map_cons, List.map_nil]); first | done | rfl | (simp only [List.length_drop, List.length_take]; rfl)) ?_; (with_reducible refine (avermentlaw11_told.calls k  true _ A4.out).mono ?_); rintro e w' ⟨rfl, ⟨nd, rfl⟩⟩; refine ⟨_, rfl, ?_⟩) | (go_at_call 24; (with_reducible refine (parity_Right.calls a0 t136 _ A6.out).mono ?_); rintro e w' ⟨rfl, ⟨nd, rfl⟩⟩) | (go_at_call 25; (with_reducible refine (parity_Of.calls a2 t137 _ A9.out).mono ?_); rintro e w' ⟨rfl, ⟨nd, rfl⟩⟩) | (go_at_call 26; (with_reducible refine (avermentref11_Of.calls a2 t138 _ A10.out).mono ?_); rintro e w' ⟨rfl, ⟨nd, rfl⟩⟩) | (go_at_call 27; (with_reducible refine (parity_Has.calls a0 a2 t139 _ A12.out).mono ?_); rintro e w' ⟨rfl, ⟨nd, rfl⟩⟩) | (go_at_call 28; (with_reducible refine (avermentref11_Has.calls (Go.bits .and .i64 a0 3) a2 t140 _ A13.out).mono ?_); rintro e w' ⟨rfl, ⟨nd, rfl⟩⟩) | (go_at_call 29; (with_reducible refine (parity_Join.calls a0 a1 t141 _ A15.out).mono ?_); rintro e w' ⟨rfl, ⟨nd, rfl⟩⟩) | (go_at_call 30; (with_reducible refine (parity_Meet.calls a0 a1 t142 _ A17.out).mono ?_); rintro e w' ⟨rfl, ⟨nd, rfl⟩⟩))
                go_ret
                exact ⟨by first | rfl | (simp; done) | (simp [*]; done), by repeat (first | exact Drawn0.refl _ | apply Drawn0.step)⟩
            · rw [if_neg c16] at H
              have c16b0 : (t141 == (Go.bits .or .i64 (Go.bits .and .i64 a0 3) (Go.bits .and .i64 a1 3))) = false := beq_eq_false_iff_ne.mpr c16
              have c16b1 : (t141 != (Go.bits .or .i64 (Go.bits .and .i64 a0 3) (Go.bits .and .i64 a1 3))) = true := bne_iff_ne.mpr c16
              obtain rfl := Option.some.inj H
              go_enter Try.func4, Try.ntmps4
              go_wp2_with (first | ((with_reducible refine gate_callee (f := 23) rfl ?_); refine goesL_ (some 13) rfl rfl Try.func23 (by kernel_rfl) rfl #[] rfl (by (try simp only [List.map_toArray, List.map_cons, List.map_nil]); first | done | rfl | (simp only [List.length_drop, List.length_take]; rfl)) ?_; (with_reducible refine (avermentlaw11_told.calls k  true _ A4.out).mono ?_); rintro e w' ⟨rfl, ⟨nd, rfl⟩⟩; refine ⟨_, rfl, ?_⟩) | (go_at_call 24; (with_reducible refine (parity_Right.calls a0 t136 _ A6.out).mono ?_); rintro e w' ⟨rfl, ⟨nd, rfl⟩⟩) | (go_at_call 25; (with_reducible refine (parity_Of.calls a2 t137 _ A9.out).mono ?_); rintro e w' ⟨rfl, ⟨nd, rfl⟩⟩) | (go_at_call 26; (with_reducible refine (avermentref11_Of.calls a2 t138 _ A10.out).mono ?_); rintro e w' ⟨rfl, ⟨nd, rfl⟩⟩) | (go_at_call 27; (with_reducible refine (parity_Has.calls a0 a2 t139 _ A12.out).mono ?_); rintro e w' ⟨rfl, ⟨nd, rfl⟩⟩) | (go_at_call 28; (with_reducible refine (avermentref11_Has.calls (Go.bits .and .i64 a0 3) a2 t140 _ A13.out).mono ?_); rintro e w' ⟨rfl, ⟨nd, rfl⟩⟩) | (go_at_call 29; (with_reducible refine (parity_Join.calls a0 a1 t141 _ A15.out).mono ?_); rintro e w' ⟨rfl, ⟨nd, rfl⟩⟩))
              go_ret
              exact ⟨by first | rfl | (simp; done) | (simp [*]; done), by repeat (first | exact Drawn0.refl _ | apply Drawn0.step)⟩
          · rw [if_neg c14] at H
            have c14b0 : (t139 == t140) = false := by simpa using c14
            (try (have c14b1 : decide (t139 = t140) = false := by simpa using c14))
            (try (have c14b2 : (t139 == t140) = false := by simpa using c14))
            (try (have c14b3 : ¬ (t139 = t140) := by simpa using c14))
            clear c14
            obtain rfl := Option.some.inj H
            go_enter Try.func4, Try.ntmps4
            go_wp2_with (first | ((with_reducible refine gate_callee (f := 23) rfl ?_); refine goesL_ (some 13) rfl rfl Try.func23 (by kernel_rfl) rfl #[] rfl (by (try simp only [List.map_toArray, List.map_cons, List.map_nil]); first | done | rfl | (simp only [List.length_drop, List.length_take]; rfl)) ?_; (with_reducible refine (avermentlaw11_told.calls k  true _ A4.out).mono ?_); rintro e w' ⟨rfl, ⟨nd, rfl⟩⟩; refine ⟨_, rfl, ?_⟩) | (go_at_call 24; (with_reducible refine (parity_Right.calls a0 t136 _ A6.out).mono ?_); rintro e w' ⟨rfl, ⟨nd, rfl⟩⟩) | (go_at_call 25; (with_reducible refine (parity_Of.calls a2 t137 _ A9.out).mono ?_); rintro e w' ⟨rfl, ⟨nd, rfl⟩⟩) | (go_at_call 26; (with_reducible refine (avermentref11_Of.calls a2 t138 _ A10.out).mono ?_); rintro e w' ⟨rfl, ⟨nd, rfl⟩⟩) | (go_at_call 27; (with_reducible refine (parity_Has.calls a0 a2 t139 _ A12.out).mono ?_); rintro e w' ⟨rfl, ⟨nd, rfl⟩⟩) | (go_at_call 28; (with_reducible refine (avermentref11_Has.calls (Go.bits .and .i64 a0 3) a2 t140 _ A13.out).mono ?_); rintro e w' ⟨rfl, ⟨nd, rfl⟩⟩))
            go_ret
            exact ⟨by first | rfl | (simp; done) | (simp [*]; done), by repeat (first | exact Drawn0.refl _ | apply Drawn0.step)⟩
        · rw [if_neg c11] at H
          have c11b0 : (t137 == t138) = false := beq_eq_false_iff_ne.mpr c11
          have c11b1 : (t137 != t138) = true := bne_iff_ne.mpr c11
          obtain rfl := Option.some.inj H
          go_enter Try.func4, Try.ntmps4
          go_wp2_with (first | ((with_reducible refine gate_callee (f := 23) rfl ?_); refine goesL_ (some 13) rfl rfl Try.func23 (by kernel_rfl) rfl #[] rfl (by (try simp only [List.map_toArray, List.map_cons, List.map_nil]); first | done | rfl | (simp only [List.length_drop, List.length_take]; rfl)) ?_; (with_reducible refine (avermentlaw11_told.calls k  true _ A4.out).mono ?_); rintro e w' ⟨rfl, ⟨nd, rfl⟩⟩; refine ⟨_, rfl, ?_⟩) | (go_at_call 24; (with_reducible refine (parity_Right.calls a0 t136 _ A6.out).mono ?_); rintro e w' ⟨rfl, ⟨nd, rfl⟩⟩) | (go_at_call 25; (with_reducible refine (parity_Of.calls a2 t137 _ A9.out).mono ?_); rintro e w' ⟨rfl, ⟨nd, rfl⟩⟩) | (go_at_call 26; (with_reducible refine (avermentref11_Of.calls a2 t138 _ A10.out).mono ?_); rintro e w' ⟨rfl, ⟨nd, rfl⟩⟩))
          go_ret
          exact ⟨by first | rfl | (simp; done) | (simp [*]; done), by repeat (first | exact Drawn0.refl _ | apply Drawn0.step)⟩
      · rw [if_neg c8] at H
        have c8b0 : (t136 == (decide (a0 ≤ 3))) = false := by simpa using c8
        (try (have c8b1 : decide (t136 = (decide (a0 ≤ 3))) = false := by simpa using c8))
        (try (have c8b2 : (t136 == (decide (a0 ≤ 3))) = false := by simpa using c8))
        (try (have c8b3 : ¬ (t136 = (decide (a0 ≤ 3))) := by simpa using c8))
        clear c8
        obtain rfl := Option.some.inj H
        go_enter Try.func4, Try.ntmps4
        go_wp2_with (first | ((with_reducible refine gate_callee (f := 23) rfl ?_); refine goesL_ (some 13) rfl rfl Try.func23 (by kernel_rfl) rfl #[] rfl (by (try simp only [List.map_toArray, List.map_cons, List.map_nil]); first | done | rfl | (simp only [List.length_drop, List.length_take]; rfl)) ?_; (with_reducible refine (avermentlaw11_told.calls k  true _ A4.out).mono ?_); rintro e w' ⟨rfl, ⟨nd, rfl⟩⟩; refine ⟨_, rfl, ?_⟩) | (go_at_call 24; (with_reducible refine (parity_Right.calls a0 t136 _ A6.out).mono ?_); rintro e w' ⟨rfl, ⟨nd, rfl⟩⟩))
        go_ret
        exact ⟨by first | rfl | (simp; done) | (simp [*]; done), by repeat (first | exact Drawn0.refl _ | apply Drawn0.step)⟩
    · rw [if_neg c7] at H
      have c7b0 : decide (1 ≤ a0) = false := decide_eq_false c7
      clear c7
      by_cases c20 : (t136 == false) = true
      · rw [if_pos c20] at H
        have c20b0 : (t136 == false) = true := c20
        (try (have c20b1 : decide (t136 = false) = true := by simpa using c20))
        (try (have c20b2 : (t136 == false) = true := by simpa using c20))
        clear c20
        replace H := Option.bind_eq_some_iff.mp H
        obtain ⟨t144, A210, H⟩ := H
        replace H : ((avermentref11_Of.f a2).bind fun t145 => (if t144 = t145 then ((parity_Has.f a0 a2).bind fun t146 => ((avermentref11_Has.f (Go.bits .and .i64 a0 3) a2).bind fun t147 => (if (t146 == t147) = true then ((parity_Join.f a0 a1).bind fun t148 => (if t148 = (Go.bits .or .i64 (Go.bits .and .i64 a0 3) (Go.bits .and .i64 a1 3)) then ((parity_Meet.f a0 a1).bind fun t149 => (if t149 = (Go.bits .and .i64 (Go.bits .and .i64 a0 3) (Go.bits .and .i64 a1 3)) then ((parity_Within.f a0 a1).bind fun t150 => (some (t150 == ((Go.bits .or .i64 (Go.bits .and .i64 a0 3) (Go.bits .and .i64 a1 3)) == (Go.bits .and .i64 a1 3))))) else (some false))) else (some false))) else (some false)))) else (some false))) = some r := H
        have A21 := Aside0.mk A210
        clear A210
        replace H := Option.bind_eq_some_iff.mp H
        obtain ⟨t145, A220, H⟩ := H
        replace H : (if t144 = t145 then ((parity_Has.f a0 a2).bind fun t146 => ((avermentref11_Has.f (Go.bits .and .i64 a0 3) a2).bind fun t147 => (if (t146 == t147) = true then ((parity_Join.f a0 a1).bind fun t148 => (if t148 = (Go.bits .or .i64 (Go.bits .and .i64 a0 3) (Go.bits .and .i64 a1 3)) then ((parity_Meet.f a0 a1).bind fun t149 => (if t149 = (Go.bits .and .i64 (Go.bits .and .i64 a0 3) (Go.bits .and .i64 a1 3)) then ((parity_Within.f a0 a1).bind fun t150 => (some (t150 == ((Go.bits .or .i64 (Go.bits .and .i64 a0 3) (Go.bits .and .i64 a1 3)) == (Go.bits .and .i64 a1 3))))) else (some false))) else (some false))) else (some false)))) else (some false)) = some r := H
        have A22 := Aside0.mk A220
        clear A220
        by_cases c23 : t144 = t145
        · rw [if_pos c23] at H
          have c23b0 : (t144 == t145) = true := beq_iff_eq.mpr c23
          have c23b1 : (t144 != t145) = false := bne_eq_false_iff_eq.mpr c23
          clear c23
          replace H := Option.bind_eq_some_iff.mp H
          obtain ⟨t146, A240, H⟩ := H
          replace H : ((avermentref11_Has.f (Go.bits .and .i64 a0 3) a2).bind fun t147 => (if (t146 == t147) = true then ((parity_Join.f a0 a1).bind fun t148 => (if t148 = (Go.bits .or .i64 (Go.bits .and .i64 a0 3) (Go.bits .and .i64 a1 3)) then ((parity_Meet.f a0 a1).bind fun t149 => (if t149 = (Go.bits .and .i64 (Go.bits .and .i64 a0 3) (Go.bits .and .i64 a1 3)) then ((parity_Within.f a0 a1).bind fun t150 => (some (t150 == ((Go.bits .or .i64 (Go.bits .and .i64 a0 3) (Go.bits .and .i64 a1 3)) == (Go.bits .and .i64 a1 3))))) else (some false))) else (some false))) else (some false))) = some r := H
          have A24 := Aside0.mk A240
          clear A240
          replace H := Option.bind_eq_some_iff.mp H
          obtain ⟨t147, A250, H⟩ := H
          replace H : (if (t146 == t147) = true then ((parity_Join.f a0 a1).bind fun t148 => (if t148 = (Go.bits .or .i64 (Go.bits .and .i64 a0 3) (Go.bits .and .i64 a1 3)) then ((parity_Meet.f a0 a1).bind fun t149 => (if t149 = (Go.bits .and .i64 (Go.bits .and .i64 a0 3) (Go.bits .and .i64 a1 3)) then ((parity_Within.f a0 a1).bind fun t150 => (some (t150 == ((Go.bits .or .i64 (Go.bits .and .i64 a0 3) (Go.bits .and .i64 a1 3)) == (Go.bits .and .i64 a1 3))))) else (some false))) else (some false))) else (some false)) = some r := H
          have A25 := Aside0.mk A250
          clear A250
          by_cases c26 : (t146 == t147) = true
          · rw [if_pos c26] at H
            have c26b0 : (t146 == t147) = true := c26
            (try (have c26b1 : decide (t146 = t147) = true := by simpa using c26))
            (try (have c26b2 : (t146 == t147) = true := by simpa using c26))
            clear c26
            replace H := Option.bind_eq_some_iff.mp H
            obtain ⟨t148, A270, H⟩ := H
            replace H : (if t148 = (Go.bits .or .i64 (Go.bits .and .i64 a0 3) (Go.bits .and .i64 a1 3)) then ((parity_Meet.f a0 a1).bind fun t149 => (if t149 = (Go.bits .and .i64 (Go.bits .and .i64 a0 3) (Go.bits .and .i64 a1 3)) then ((parity_Within.f a0 a1).bind fun t150 => (some (t150 == ((Go.bits .or .i64 (Go.bits .and .i64 a0 3) (Go.bits .and .i64 a1 3)) == (Go.bits .and .i64 a1 3))))) else (some false))) else (some false)) = some r := H
            have A27 := Aside0.mk A270
            clear A270
            by_cases c28 : t148 = (Go.bits .or .i64 (Go.bits .and .i64 a0 3) (Go.bits .and .i64 a1 3))
            · rw [if_pos c28] at H
              have c28b0 : (t148 == (Go.bits .or .i64 (Go.bits .and .i64 a0 3) (Go.bits .and .i64 a1 3))) = true := beq_iff_eq.mpr c28
              have c28b1 : (t148 != (Go.bits .or .i64 (Go.bits .and .i64 a0 3) (Go.bits .and .i64 a1 3))) = false := bne_eq_false_iff_eq.mpr c28
              clear c28
              replace H := Option.bind_eq_some_iff.mp H
              obtain ⟨t149, A290, H⟩ := H
              replace H : (if t149 = (Go.bits .and .i64 (Go.bits .and .i64 a0 3) (Go.bits .and .i64 a1 3)) then ((parity_Within.f a0 a1).bind fun t150 => (some (t150 == ((Go.bits .or .i64 (Go.bits .and .i64 a0 3) (Go.bits .and .i64 a1 3)) == (Go.bits .and .i64 a1 3))))) else (some false)) = some r := H
              have A29 := Aside0.mk A290
              clear A290
              by_cases c30 : t149 = (Go.bits .and .i64 (Go.bits .and .i64 a0 3) (Go.bits .and .i64 a1 3))
              · rw [if_pos c30] at H
                have c30b0 : (t149 == (Go.bits .and .i64 (Go.bits .and .i64 a0 3) (Go.bits .and .i64 a1 3))) = true := beq_iff_eq.mpr c30
                have c30b1 : (t149 != (Go.bits .and .i64 (Go.bits .and .i64 a0 3) (Go.bits .and .i64 a1 3))) = false := bne_eq_false_iff_eq.mpr c30
                clear c30
                replace H := Option.bind_eq_some_iff.mp H
                obtain ⟨t150, A310, H⟩ := H
                replace H : (some (t150 == ((Go.bits .or .i64 (Go.bits .and .i64 a0 3) (Go.bits .and .i64 a1 3)) == (Go.bits .and .i64 a1 3)))) = some r := H
                have A31 := Aside0.mk A310
                clear A310
                obtain rfl := Option.some.inj H
                go_enter Try.func4, Try.ntmps4
                go_wp2_with (first | ((with_reducible refine gate_callee (f := 23) rfl ?_); refine goesL_ (some 13) rfl rfl Try.func23 (by kernel_rfl) rfl #[] rfl (by (try simp only [List.map_toArray, List.map_cons, List.map_nil]); first | done | rfl | (simp only [List.length_drop, List.length_take]; rfl)) ?_; (with_reducible refine (avermentlaw11_told.calls k  true _ A4.out).mono ?_); rintro e w' ⟨rfl, ⟨nd, rfl⟩⟩; refine ⟨_, rfl, ?_⟩) | (go_at_call 24; (with_reducible refine (parity_Right.calls a0 t136 _ A6.out).mono ?_); rintro e w' ⟨rfl, ⟨nd, rfl⟩⟩) | (go_at_call 25; (with_reducible refine (parity_Of.calls a2 t144 _ A21.out).mono ?_); rintro e w' ⟨rfl, ⟨nd, rfl⟩⟩) | (go_at_call 26; (with_reducible refine (avermentref11_Of.calls a2 t145 _ A22.out).mono ?_); rintro e w' ⟨rfl, ⟨nd, rfl⟩⟩) | (go_at_call 27; (with_reducible refine (parity_Has.calls a0 a2 t146 _ A24.out).mono ?_); rintro e w' ⟨rfl, ⟨nd, rfl⟩⟩) | (go_at_call 28; (with_reducible refine (avermentref11_Has.calls (Go.bits .and .i64 a0 3) a2 t147 _ A25.out).mono ?_); rintro e w' ⟨rfl, ⟨nd, rfl⟩⟩) | (go_at_call 29; (with_reducible refine (parity_Join.calls a0 a1 t148 _ A27.out).mono ?_); rintro e w' ⟨rfl, ⟨nd, rfl⟩⟩) | (go_at_call 30; (with_reducible refine (parity_Meet.calls a0 a1 t149 _ A29.out).mono ?_); rintro e w' ⟨rfl, ⟨nd, rfl⟩⟩) | (go_at_call 31; (with_reducible refine (parity_Within.calls a0 a1 t150 _ A31.out).mono ?_); rintro e w' ⟨rfl, ⟨nd, rfl⟩⟩))
                go_ret
                exact ⟨by first | rfl | (simp; done) | (simp [*]; done), by repeat (first | exact Drawn0.refl _ | apply Drawn0.step)⟩
              · rw [if_neg c30] at H
                have c30b0 : (t149 == (Go.bits .and .i64 (Go.bits .and .i64 a0 3) (Go.bits .and .i64 a1 3))) = false := beq_eq_false_iff_ne.mpr c30
                have c30b1 : (t149 != (Go.bits .and .i64 (Go.bits .and .i64 a0 3) (Go.bits .and .i64 a1 3))) = true := bne_iff_ne.mpr c30
                obtain rfl := Option.some.inj H
                go_enter Try.func4, Try.ntmps4
                go_wp2_with (first | ((with_reducible refine gate_callee (f := 23) rfl ?_); refine goesL_ (some 13) rfl rfl Try.func23 (by kernel_rfl) rfl #[] rfl (by (try simp only [List.map_toArray, List.map_cons, List.map_nil]); first | done | rfl | (simp only [List.length_drop, List.length_take]; rfl)) ?_; (with_reducible refine (avermentlaw11_told.calls k  true _ A4.out).mono ?_); rintro e w' ⟨rfl, ⟨nd, rfl⟩⟩; refine ⟨_, rfl, ?_⟩) | (go_at_call 24; (with_reducible refine (parity_Right.calls a0 t136 _ A6.out).mono ?_); rintro e w' ⟨rfl, ⟨nd, rfl⟩⟩) | (go_at_call 25; (with_reducible refine (parity_Of.calls a2 t144 _ A21.out).mono ?_); rintro e w' ⟨rfl, ⟨nd, rfl⟩⟩) | (go_at_call 26; (with_reducible refine (avermentref11_Of.calls a2 t145 _ A22.out).mono ?_); rintro e w' ⟨rfl, ⟨nd, rfl⟩⟩) | (go_at_call 27; (with_reducible refine (parity_Has.calls a0 a2 t146 _ A24.out).mono ?_); rintro e w' ⟨rfl, ⟨nd, rfl⟩⟩) | (go_at_call 28; (with_reducible refine (avermentref11_Has.calls (Go.bits .and .i64 a0 3) a2 t147 _ A25.out).mono ?_); rintro e w' ⟨rfl, ⟨nd, rfl⟩⟩) | (go_at_call 29; (with_reducible refine (parity_Join.calls a0 a1 t148 _ A27.out).mono ?_); rintro e w' ⟨rfl, ⟨nd, rfl⟩⟩) | (go_at_call 30; (with_reducible refine (parity_Meet.calls a0 a1 t149 _ A29.out).mono ?_); rintro e w' ⟨rfl, ⟨nd, rfl⟩⟩))
                go_ret
                exact ⟨by first | rfl | (simp; done) | (simp [*]; done), by repeat (first | exact Drawn0.refl _ | apply Drawn0.step)⟩
            · rw [if_neg c28] at H
              have c28b0 : (t148 == (Go.bits .or .i64 (Go.bits .and .i64 a0 3) (Go.bits .and .i64 a1 3))) = false := beq_eq_false_iff_ne.mpr c28
              have c28b1 : (t148 != (Go.bits .or .i64 (Go.bits .and .i64 a0 3) (Go.bits .and .i64 a1 3))) = true := bne_iff_ne.mpr c28
              obtain rfl := Option.some.inj H
              go_enter Try.func4, Try.ntmps4
              go_wp2_with (first | ((with_reducible refine gate_callee (f := 23) rfl ?_); refine goesL_ (some 13) rfl rfl Try.func23 (by kernel_rfl) rfl #[] rfl (by (try simp only [List.map_toArray, List.map_cons, List.map_nil]); first | done | rfl | (simp only [List.length_drop, List.length_take]; rfl)) ?_; (with_reducible refine (avermentlaw11_told.calls k  true _ A4.out).mono ?_); rintro e w' ⟨rfl, ⟨nd, rfl⟩⟩; refine ⟨_, rfl, ?_⟩) | (go_at_call 24; (with_reducible refine (parity_Right.calls a0 t136 _ A6.out).mono ?_); rintro e w' ⟨rfl, ⟨nd, rfl⟩⟩) | (go_at_call 25; (with_reducible refine (parity_Of.calls a2 t144 _ A21.out).mono ?_); rintro e w' ⟨rfl, ⟨nd, rfl⟩⟩) | (go_at_call 26; (with_reducible refine (avermentref11_Of.calls a2 t145 _ A22.out).mono ?_); rintro e w' ⟨rfl, ⟨nd, rfl⟩⟩) | (go_at_call 27; (with_reducible refine (parity_Has.calls a0 a2 t146 _ A24.out).mono ?_); rintro e w' ⟨rfl, ⟨nd, rfl⟩⟩) | (go_at_call 28; (with_reducible refine (avermentref11_Has.calls (Go.bits .and .i64 a0 3) a2 t147 _ A25.out).mono ?_); rintro e w' ⟨rfl, ⟨nd, rfl⟩⟩) | (go_at_call 29; (with_reducible refine (parity_Join.calls a0 a1 t148 _ A27.out).mono ?_); rintro e w' ⟨rfl, ⟨nd, rfl⟩⟩))
              go_ret
              exact ⟨by first | rfl | (simp; done) | (simp [*]; done), by repeat (first | exact Drawn0.refl _ | apply Drawn0.step)⟩
          · rw [if_neg c26] at H
            have c26b0 : (t146 == t147) = false := by simpa using c26
            (try (have c26b1 : decide (t146 = t147) = false := by simpa using c26))
            (try (have c26b2 : (t146 == t147) = false := by simpa using c26))
            (try (have c26b3 : ¬ (t146 = t147) := by simpa using c26))
            clear c26
            obtain rfl := Option.some.inj H
            go_enter Try.func4, Try.ntmps4
            go_wp2_with (first | ((with_reducible refine gate_callee (f := 23) rfl ?_); refine goesL_ (some 13) rfl rfl Try.func23 (by kernel_rfl) rfl #[] rfl (by (try simp only [List.map_toArray, List.map_cons, List.map_nil]); first | done | rfl | (simp only [List.length_drop, List.length_take]; rfl)) ?_; (with_reducible refine (avermentlaw11_told.calls k  true _ A4.out).mono ?_); rintro e w' ⟨rfl, ⟨nd, rfl⟩⟩; refine ⟨_, rfl, ?_⟩) | (go_at_call 24; (with_reducible refine (parity_Right.calls a0 t136 _ A6.out).mono ?_); rintro e w' ⟨rfl, ⟨nd, rfl⟩⟩) | (go_at_call 25; (with_reducible refine (parity_Of.calls a2 t144 _ A21.out).mono ?_); rintro e w' ⟨rfl, ⟨nd, rfl⟩⟩) | (go_at_call 26; (with_reducible refine (avermentref11_Of.calls a2 t145 _ A22.out).mono ?_); rintro e w' ⟨rfl, ⟨nd, rfl⟩⟩) | (go_at_call 27; (with_reducible refine (parity_Has.calls a0 a2 t146 _ A24.out).mono ?_); rintro e w' ⟨rfl, ⟨nd, rfl⟩⟩) | (go_at_call 28; (with_reducible refine (avermentref11_Has.calls (Go.bits .and .i64 a0 3) a2 t147 _ A25.out).mono ?_); rintro e w' ⟨rfl, ⟨nd, rfl⟩⟩))
            go_ret
            exact ⟨by first | rfl | (simp; done) | (simp [*]; done), by repeat (first | exact Drawn0.refl _ | apply Drawn0.step)⟩
        · rw [if_neg c23] at H
          have c23b0 : (t144 == t145) = false := beq_eq_false_iff_ne.mpr c23
          have c23b1 : (t144 != t145) = true := bne_iff_ne.mpr c23
          obtain rfl := Option.some.inj H
          go_enter Try.func4, Try.ntmps4
          go_wp2_with (first | ((with_reducible refine gate_callee (f := 23) rfl ?_); refine goesL_ (some 13) rfl rfl Try.func23 (by kernel_rfl) rfl #[] rfl (by (try simp only [List.map_toArray, List.map_cons, List.map_nil]); first | done | rfl | (simp only [List.length_drop, List.length_take]; rfl)) ?_; (with_reducible refine (avermentlaw11_told.calls k  true _ A4.out).mono ?_); rintro e w' ⟨rfl, ⟨nd, rfl⟩⟩; refine ⟨_, rfl, ?_⟩) | (go_at_call 24; (with_reducible refine (parity_Right.calls a0 t136 _ A6.out).mono ?_); rintro e w' ⟨rfl, ⟨nd, rfl⟩⟩) | (go_at_call 25; (with_reducible refine (parity_Of.calls a2 t144 _ A21.out).mono ?_); rintro e w' ⟨rfl, ⟨nd, rfl⟩⟩) | (go_at_call 26; (with_reducible refine (avermentref11_Of.calls a2 t145 _ A22.out).mono ?_); rintro e w' ⟨rfl, ⟨nd, rfl⟩⟩))
          go_ret
          exact ⟨by first | rfl | (simp; done) | (simp [*]; done), by repeat (first | exact Drawn0.refl _ | apply Drawn0.step)⟩
      · rw [if_neg c20] at H
        have c20b0 : (t136 == false) = false := by simpa using c20
        (try (have c20b1 : decide (t136 = false) = false := by simpa using c20))
        (try (have c20b2 : (t136 == false) = false := by simpa using c20))
        (try (have c20b3 : ¬ (t136 = false) := by simpa using c20))
        clear c20
        obtain rfl := Option.some.inj H
        go_enter Try.func4, Try.ntmps4
        go_wp2_with (first | ((with_reducible refine gate_callee (f := 23) rfl ?_); refine goesL_ (some 13) rfl rfl Try.func23 (by kernel_rfl) rfl #[] rfl (by (try simp only [List.map_toArray, List.map_cons, List.map_nil]); first | done | rfl | (simp only [List.length_drop, List.length_take]; rfl)) ?_; (with_reducible refine (avermentlaw11_told.calls k  true _ A4.out).mono ?_); rintro e w' ⟨rfl, ⟨nd, rfl⟩⟩; refine ⟨_, rfl, ?_⟩) | (go_at_call 24; (with_reducible refine (parity_Right.calls a0 t136 _ A6.out).mono ?_); rintro e w' ⟨rfl, ⟨nd, rfl⟩⟩))
        go_ret
        exact ⟨by first | rfl | (simp; done) | (simp [*]; done), by repeat (first | exact Drawn0.refl _ | apply Drawn0.step)⟩
  · replace c5 := Bool.eq_false_iff.mpr c5
    subst c5
    have H1 : (some false) = some r := by rw [if_neg (show ¬ (false = true) by decide)] at H; exact H
    clear H
    have H := H1
    clear H1
    obtain rfl := Option.some.inj H
    go_enter Try.func4, Try.ntmps4
    go_wp2_with (first | ((with_reducible refine gate_callee (f := 23) rfl ?_); refine goesL_ (some 13) rfl rfl Try.func23 (by kernel_rfl) rfl #[] rfl (by (try simp only [List.map_toArray, List.map_cons, List.map_nil]); first | done | rfl | (simp only [List.length_drop, List.length_take]; rfl)) ?_; (with_reducible refine (avermentlaw11_told.calls k  false _ A4.out).mono ?_); rintro e w' ⟨rfl, ⟨nd, rfl⟩⟩; refine ⟨_, rfl, ?_⟩))
    go_ret
    exact ⟨by first | rfl | (simp; done) | (simp [*]; done), by repeat (first | exact Drawn0.refl _ | apply Drawn0.step)⟩

/-- THE ONE PURE STATEMENT of avermentlaw11_ParitySets: yours. -/
def avermentlaw11_ParitySets.Pure : Prop := ∀ (a0 : Int) (a1 : Int) (a2 : Int), (Lit.int .i64 a0).wf = true → (Lit.int .i64 a1).wf = true → (Lit.int .i64 a2).wf = true → ∃ k, avermentlaw11_ParitySets.f k a0 a1 a2 = some true
theorem avermentlaw11_ParitySets.walk (P : avermentlaw11_ParitySets.Pure) (a0 : Int) (a1 : Int) (a2 : Int) (w : World) (w0 : (Lit.int .i64 a0).wf = true) (w1 : (Lit.int .i64 a1).wf = true) (w2 : (Lit.int .i64 a2).wf = true) :
    Calls Try.prog 4 #[.int .i64 a0, .int .i64 a1, .int .i64 a2] w fun e w' => e = .returned (.bool true) ∧ Below w.heap.size w w' := by
  obtain ⟨k, h⟩ := P a0 a1 a2 w0 w1 w2
  refine (avermentlaw11_ParitySets.calls k a0 a1 a2 true w h).mono ?_
  rintro e w' ⟨rfl, hd⟩
  exact ⟨rfl, hd.below⟩

/-! ### parity_One: function 32 -/
def parity_One.f (a0 : Int) (a1 : Int) : Option (Int) := if a0 = 2 then (some (Go.bits .and .i64 a1 3)) else (if a0 = 3 then (some (Go.bits .and .i64 a1 3)) else (some 0))
set_option maxHeartbeats 8000000 in
set_option maxRecDepth 100000 in
theorem parity_One.calls (a0 : Int) (a1 : Int) (r : Int) (w : World) (h : parity_One.f a0 a1 = some r) :
    Calls Try.prog 32 #[.int .i64 a0, .int .i64 a1] w fun e w' => e = .returned (.int .i64 r) ∧ Drawn0 w w' := by
  have H : (if a0 = 2 then (some (Go.bits .and .i64 a1 3)) else (if a0 = 3 then (some (Go.bits .and .i64 a1 3)) else (some 0))) = some r := h
  clear h
  by_cases c3 : a0 = 2
  · rw [if_pos c3] at H
    have c3b0 : (a0 == 2) = true := beq_iff_eq.mpr c3
    have c3b1 : (a0 != 2) = false := bne_eq_false_iff_eq.mpr c3
    clear c3
    obtain rfl := Option.some.inj H
    go_enter Try.func32, Try.ntmps32
    go_wp2
    go_ret
    exact ⟨by first | rfl | (simp; done) | (simp [*]; done), by repeat (first | exact Drawn0.refl _ | apply Drawn0.step)⟩
  · rw [if_neg c3] at H
    have c3b0 : (a0 == 2) = false := beq_eq_false_iff_ne.mpr c3
    have c3b1 : (a0 != 2) = true := bne_iff_ne.mpr c3
    by_cases c4 : a0 = 3
    · rw [if_pos c4] at H
      have c4b0 : (a0 == 3) = true := beq_iff_eq.mpr c4
      have c4b1 : (a0 != 3) = false := bne_eq_false_iff_eq.mpr c4
      clear c4
      obtain rfl := Option.some.inj H
      go_enter Try.func32, Try.ntmps32
      go_wp2
      go_ret
      exact ⟨by first | rfl | (simp; done) | (simp [*]; done), by repeat (first | exact Drawn0.refl _ | apply Drawn0.step)⟩
    · rw [if_neg c4] at H
      have c4b0 : (a0 == 3) = false := beq_eq_false_iff_ne.mpr c4
      have c4b1 : (a0 != 3) = true := bne_iff_ne.mpr c4
      obtain rfl := Option.some.inj H
      go_enter Try.func32, Try.ntmps32
      go_wp2
      go_ret
      exact ⟨by first | rfl | (simp; done) | (simp [*]; done), by repeat (first | exact Drawn0.refl _ | apply Drawn0.step)⟩

/-! ### avermentref11_One: function 33 -/
def avermentref11_One.f (a0 : Int) (a1 : Int) : Option (Int) := if a0 = 2 then (some (Go.bits .and .i64 a1 3)) else (if a0 = 3 then (some (Go.bits .and .i64 a1 3)) else (some 0))
set_option maxHeartbeats 8000000 in
set_option maxRecDepth 100000 in
theorem avermentref11_One.calls (a0 : Int) (a1 : Int) (r : Int) (w : World) (h : avermentref11_One.f a0 a1 = some r) :
    Calls Try.prog 33 #[.int .i64 a0, .int .i64 a1] w fun e w' => e = .returned (.int .i64 r) ∧ Drawn0 w w' := by
  have H : (if a0 = 2 then (some (Go.bits .and .i64 a1 3)) else (if a0 = 3 then (some (Go.bits .and .i64 a1 3)) else (some 0))) = some r := h
  clear h
  by_cases c3 : a0 = 2
  · rw [if_pos c3] at H
    have c3b0 : (a0 == 2) = true := beq_iff_eq.mpr c3
    have c3b1 : (a0 != 2) = false := bne_eq_false_iff_eq.mpr c3
    clear c3
    obtain rfl := Option.some.inj H
    go_enter Try.func33, Try.ntmps33
    go_wp2
    go_ret
    exact ⟨by first | rfl | (simp; done) | (simp [*]; done), by repeat (first | exact Drawn0.refl _ | apply Drawn0.step)⟩
  · rw [if_neg c3] at H
    have c3b0 : (a0 == 2) = false := beq_eq_false_iff_ne.mpr c3
    have c3b1 : (a0 != 2) = true := bne_iff_ne.mpr c3
    by_cases c4 : a0 = 3
    · rw [if_pos c4] at H
      have c4b0 : (a0 == 3) = true := beq_iff_eq.mpr c4
      have c4b1 : (a0 != 3) = false := bne_eq_false_iff_eq.mpr c4
      clear c4
      obtain rfl := Option.some.inj H
      go_enter Try.func33, Try.ntmps33
      go_wp2
      go_ret
      exact ⟨by first | rfl | (simp; done) | (simp [*]; done), by repeat (first | exact Drawn0.refl _ | apply Drawn0.step)⟩
    · rw [if_neg c4] at H
      have c4b0 : (a0 == 3) = false := beq_eq_false_iff_ne.mpr c4
      have c4b1 : (a0 != 3) = true := bne_iff_ne.mpr c4
      obtain rfl := Option.some.inj H
      go_enter Try.func33, Try.ntmps33
      go_wp2
      go_ret
      exact ⟨by first | rfl | (simp; done) | (simp [*]; done), by repeat (first | exact Drawn0.refl _ | apply Drawn0.step)⟩

/-! ### avermentref07_Arith: function 38 -/
def avermentref07_Arith.f (a0 : Int) (a1 : Int) (a2 : Int) : Option (Int × Bool) := if a0 = 4 then (some (wrap64 (a1 + a2), true)) else (if a0 = 5 then (some (wrap64 (a1 - a2), true)) else (if a0 = 6 then (some (wrap64 (a1 * a2), true)) else (if a0 = 7 then (if a2 = 0 then (some (0, false)) else (if a2 = (-1) then (some (wrap64 (-a1), true)) else (some (wrap64 (Int.tdiv a1 a2), true)))) else (if a0 = 8 then (if a2 = 0 then (some (0, false)) else (if a2 = (-1) then (some (0, true)) else (some (Int.tmod a1 a2, true)))) else (if a0 = 9 then (some (Go.bits .and .i64 a1 a2, true)) else (if a0 = 10 then (some (Go.bits .xor .i64 a1 a2, true)) else (if a0 = 11 then (if a1 < a2 then (some (1, true)) else (some (0, true))) else (if a0 = 12 then (if a1 = a2 then (some (1, true)) else (some (0, true))) else (some (0, false))))))))))
set_option maxHeartbeats 8000000 in
set_option maxRecDepth 100000 in
theorem avermentref07_Arith.calls (a0 : Int) (a1 : Int) (a2 : Int) (r1 : Int) (r2 : Bool) (w : World) (h : avermentref07_Arith.f a0 a1 a2 = some (r1, r2)) :
    Calls Try.prog 38 #[.int .i64 a0, .int .i64 a1, .int .i64 a2] w fun e w' => e = .returned (.tuple #[.int .i64 r1, .bool r2]) ∧ Drawn0 w w' := by
  have H : (if a0 = 4 then (some (wrap64 (a1 + a2), true)) else (if a0 = 5 then (some (wrap64 (a1 - a2), true)) else (if a0 = 6 then (some (wrap64 (a1 * a2), true)) else (if a0 = 7 then (if a2 = 0 then (some (0, false)) else (if a2 = (-1) then (some (wrap64 (-a1), true)) else (some (wrap64 (Int.tdiv a1 a2), true)))) else (if a0 = 8 then (if a2 = 0 then (some (0, false)) else (if a2 = (-1) then (some (0, true)) else (some (Int.tmod a1 a2, true)))) else (if a0 = 9 then (some (Go.bits .and .i64 a1 a2, true)) else (if a0 = 10 then (some (Go.bits .xor .i64 a1 a2, true)) else (if a0 = 11 then (if a1 < a2 then (some (1, true)) else (some (0, true))) else (if a0 = 12 then (if a1 = a2 then (some (1, true)) else (some (0, true))) else (some (0, false))))))))))) = some (r1, r2) := h
  clear h
  by_cases c4 : a0 = 4
  · rw [if_pos c4] at H
    have c4b0 : (a0 == 4) = true := beq_iff_eq.mpr c4
    have c4b1 : (a0 != 4) = false := bne_eq_false_iff_eq.mpr c4
    clear c4
    simp only [Option.some.injEq, Prod.mk.injEq] at H
    obtain ⟨rfl, rfl⟩ := H
    go_enter Try.func38, Try.ntmps38
    go_wp2
    go_ret2
    exact ⟨by first | rfl | (simp; done) | (simp [*]; done), by repeat (first | exact Drawn0.refl _ | apply Drawn0.step)⟩
  · rw [if_neg c4] at H
    have c4b0 : (a0 == 4) = false := beq_eq_false_iff_ne.mpr c4
    have c4b1 : (a0 != 4) = true := bne_iff_ne.mpr c4
    by_cases c5 : a0 = 5
    · rw [if_pos c5] at H
      have c5b0 : (a0 == 5) = true := beq_iff_eq.mpr c5
      have c5b1 : (a0 != 5) = false := bne_eq_false_iff_eq.mpr c5
      clear c5
      simp only [Option.some.injEq, Prod.mk.injEq] at H
      obtain ⟨rfl, rfl⟩ := H
      go_enter Try.func38, Try.ntmps38
      go_wp2
      go_ret2
      exact ⟨by first | rfl | (simp; done) | (simp [*]; done), by repeat (first | exact Drawn0.refl _ | apply Drawn0.step)⟩
    · rw [if_neg c5] at H
      have c5b0 : (a0 == 5) = false := beq_eq_false_iff_ne.mpr c5
      have c5b1 : (a0 != 5) = true := bne_iff_ne.mpr c5
      by_cases c6 : a0 = 6
      · rw [if_pos c6] at H
        have c6b0 : (a0 == 6) = true := beq_iff_eq.mpr c6
        have c6b1 : (a0 != 6) = false := bne_eq_false_iff_eq.mpr c6
        clear c6
        simp only [Option.some.injEq, Prod.mk.injEq] at H
        obtain ⟨rfl, rfl⟩ := H
        go_enter Try.func38, Try.ntmps38
        go_wp2
        go_ret2
        exact ⟨by first | rfl | (simp; done) | (simp [*]; done), by repeat (first | exact Drawn0.refl _ | apply Drawn0.step)⟩
      · rw [if_neg c6] at H
        have c6b0 : (a0 == 6) = false := beq_eq_false_iff_ne.mpr c6
        have c6b1 : (a0 != 6) = true := bne_iff_ne.mpr c6
        by_cases c7 : a0 = 7
        · rw [if_pos c7] at H
          have c7b0 : (a0 == 7) = true := beq_iff_eq.mpr c7
          have c7b1 : (a0 != 7) = false := bne_eq_false_iff_eq.mpr c7
          clear c7
          by_cases c8 : a2 = 0
          · rw [if_pos c8] at H
            have c8b0 : (a2 == 0) = true := beq_iff_eq.mpr c8
            have c8b1 : (a2 != 0) = false := bne_eq_false_iff_eq.mpr c8
            clear c8
            simp only [Option.some.injEq, Prod.mk.injEq] at H
            obtain ⟨rfl, rfl⟩ := H
            go_enter Try.func38, Try.ntmps38
            go_wp2
            go_ret2
            exact ⟨by first | rfl | (simp; done) | (simp [*]; done), by repeat (first | exact Drawn0.refl _ | apply Drawn0.step)⟩
          · rw [if_neg c8] at H
            have c8b0 : (a2 == 0) = false := beq_eq_false_iff_ne.mpr c8
            have c8b1 : (a2 != 0) = true := bne_iff_ne.mpr c8
            by_cases c9 : a2 = (-1)
            · rw [if_pos c9] at H
              have c9b0 : (a2 == (-1)) = true := beq_iff_eq.mpr c9
              have c9b1 : (a2 != (-1)) = false := bne_eq_false_iff_eq.mpr c9
              clear c9
              simp only [Option.some.injEq, Prod.mk.injEq] at H
              obtain ⟨rfl, rfl⟩ := H
              go_enter Try.func38, Try.ntmps38
              go_wp2
              go_ret2
              exact ⟨by first | rfl | (simp; done) | (simp [*]; done), by repeat (first | exact Drawn0.refl _ | apply Drawn0.step)⟩
            · rw [if_neg c9] at H
              have c9b0 : (a2 == (-1)) = false := beq_eq_false_iff_ne.mpr c9
              have c9b1 : (a2 != (-1)) = true := bne_iff_ne.mpr c9
              simp only [Option.some.injEq, Prod.mk.injEq] at H
              obtain ⟨rfl, rfl⟩ := H
              go_enter Try.func38, Try.ntmps38
              go_wp2
              go_ret2
              exact ⟨by first | rfl | (simp; done) | (simp [*]; done), by repeat (first | exact Drawn0.refl _ | apply Drawn0.step)⟩
        · rw [if_neg c7] at H
          have c7b0 : (a0 == 7) = false := beq_eq_false_iff_ne.mpr c7
          have c7b1 : (a0 != 7) = true := bne_iff_ne.mpr c7
          by_cases c10 : a0 = 8
          · rw [if_pos c10] at H
            have c10b0 : (a0 == 8) = true := beq_iff_eq.mpr c10
            have c10b1 : (a0 != 8) = false := bne_eq_false_iff_eq.mpr c10
            clear c10
            by_cases c11 : a2 = 0
            · rw [if_pos c11] at H
              have c11b0 : (a2 == 0) = true := beq_iff_eq.mpr c11
              have c11b1 : (a2 != 0) = false := bne_eq_false_iff_eq.mpr c11
              clear c11
              simp only [Option.some.injEq, Prod.mk.injEq] at H
              obtain ⟨rfl, rfl⟩ := H
              go_enter Try.func38, Try.ntmps38
              go_wp2
              go_ret2
              exact ⟨by first | rfl | (simp; done) | (simp [*]; done), by repeat (first | exact Drawn0.refl _ | apply Drawn0.step)⟩
            · rw [if_neg c11] at H
              have c11b0 : (a2 == 0) = false := beq_eq_false_iff_ne.mpr c11
              have c11b1 : (a2 != 0) = true := bne_iff_ne.mpr c11
              by_cases c12 : a2 = (-1)
              · rw [if_pos c12] at H
                have c12b0 : (a2 == (-1)) = true := beq_iff_eq.mpr c12
                have c12b1 : (a2 != (-1)) = false := bne_eq_false_iff_eq.mpr c12
                clear c12
                simp only [Option.some.injEq, Prod.mk.injEq] at H
                obtain ⟨rfl, rfl⟩ := H
                go_enter Try.func38, Try.ntmps38
                go_wp2
                go_ret2
                exact ⟨by first | rfl | (simp; done) | (simp [*]; done), by repeat (first | exact Drawn0.refl _ | apply Drawn0.step)⟩
              · rw [if_neg c12] at H
                have c12b0 : (a2 == (-1)) = false := beq_eq_false_iff_ne.mpr c12
                have c12b1 : (a2 != (-1)) = true := bne_iff_ne.mpr c12
                simp only [Option.some.injEq, Prod.mk.injEq] at H
                obtain ⟨rfl, rfl⟩ := H
                go_enter Try.func38, Try.ntmps38
                go_wp2
                go_ret2
                exact ⟨by first | rfl | (simp; done) | (simp [*]; done), by repeat (first | exact Drawn0.refl _ | apply Drawn0.step)⟩
          · rw [if_neg c10] at H
            have c10b0 : (a0 == 8) = false := beq_eq_false_iff_ne.mpr c10
            have c10b1 : (a0 != 8) = true := bne_iff_ne.mpr c10
            by_cases c13 : a0 = 9
            · rw [if_pos c13] at H
              have c13b0 : (a0 == 9) = true := beq_iff_eq.mpr c13
              have c13b1 : (a0 != 9) = false := bne_eq_false_iff_eq.mpr c13
              clear c13
              simp only [Option.some.injEq, Prod.mk.injEq] at H
              obtain ⟨rfl, rfl⟩ := H
              go_enter Try.func38, Try.ntmps38
              go_wp2
              go_ret2
              exact ⟨by first | rfl | (simp; done) | (simp [*]; done), by repeat (first | exact Drawn0.refl _ | apply Drawn0.step)⟩
            · rw [if_neg c13] at H
              have c13b0 : (a0 == 9) = false := beq_eq_false_iff_ne.mpr c13
              have c13b1 : (a0 != 9) = true := bne_iff_ne.mpr c13
              by_cases c14 : a0 = 10
              · rw [if_pos c14] at H
                have c14b0 : (a0 == 10) = true := beq_iff_eq.mpr c14
                have c14b1 : (a0 != 10) = false := bne_eq_false_iff_eq.mpr c14
                clear c14
                simp only [Option.some.injEq, Prod.mk.injEq] at H
                obtain ⟨rfl, rfl⟩ := H
                go_enter Try.func38, Try.ntmps38
                go_wp2
                go_ret2
                exact ⟨by first | rfl | (simp; done) | (simp [*]; done), by repeat (first | exact Drawn0.refl _ | apply Drawn0.step)⟩
              · rw [if_neg c14] at H
                have c14b0 : (a0 == 10) = false := beq_eq_false_iff_ne.mpr c14
                have c14b1 : (a0 != 10) = true := bne_iff_ne.mpr c14
                by_cases c15 : a0 = 11
                · rw [if_pos c15] at H
                  have c15b0 : (a0 == 11) = true := beq_iff_eq.mpr c15
                  have c15b1 : (a0 != 11) = false := bne_eq_false_iff_eq.mpr c15
                  clear c15
                  by_cases c16 : a1 < a2
                  · rw [if_pos c16] at H
                    have c16b0 : decide (a1 < a2) = true := decide_eq_true c16
                    clear c16
                    simp only [Option.some.injEq, Prod.mk.injEq] at H
                    obtain ⟨rfl, rfl⟩ := H
                    go_enter Try.func38, Try.ntmps38
                    go_wp2
                    go_ret2
                    exact ⟨by first | rfl | (simp; done) | (simp [*]; done), by repeat (first | exact Drawn0.refl _ | apply Drawn0.step)⟩
                  · rw [if_neg c16] at H
                    have c16b0 : decide (a1 < a2) = false := decide_eq_false c16
                    clear c16
                    simp only [Option.some.injEq, Prod.mk.injEq] at H
                    obtain ⟨rfl, rfl⟩ := H
                    go_enter Try.func38, Try.ntmps38
                    go_wp2
                    go_ret2
                    exact ⟨by first | rfl | (simp; done) | (simp [*]; done), by repeat (first | exact Drawn0.refl _ | apply Drawn0.step)⟩
                · rw [if_neg c15] at H
                  have c15b0 : (a0 == 11) = false := beq_eq_false_iff_ne.mpr c15
                  have c15b1 : (a0 != 11) = true := bne_iff_ne.mpr c15
                  by_cases c17 : a0 = 12
                  · rw [if_pos c17] at H
                    have c17b0 : (a0 == 12) = true := beq_iff_eq.mpr c17
                    have c17b1 : (a0 != 12) = false := bne_eq_false_iff_eq.mpr c17
                    clear c17
                    by_cases c18 : a1 = a2
                    · rw [if_pos c18] at H
                      have c18b0 : (a1 == a2) = true := beq_iff_eq.mpr c18
                      have c18b1 : (a1 != a2) = false := bne_eq_false_iff_eq.mpr c18
                      clear c18
                      simp only [Option.some.injEq, Prod.mk.injEq] at H
                      obtain ⟨rfl, rfl⟩ := H
                      go_enter Try.func38, Try.ntmps38
                      go_wp2
                      go_ret2
                      exact ⟨by first | rfl | (simp; done) | (simp [*]; done), by repeat (first | exact Drawn0.refl _ | apply Drawn0.step)⟩
                    · rw [if_neg c18] at H
                      have c18b0 : (a1 == a2) = false := beq_eq_false_iff_ne.mpr c18
                      have c18b1 : (a1 != a2) = true := bne_iff_ne.mpr c18
                      simp only [Option.some.injEq, Prod.mk.injEq] at H
                      obtain ⟨rfl, rfl⟩ := H
                      go_enter Try.func38, Try.ntmps38
                      go_wp2
                      go_ret2
                      exact ⟨by first | rfl | (simp; done) | (simp [*]; done), by repeat (first | exact Drawn0.refl _ | apply Drawn0.step)⟩
                  · rw [if_neg c17] at H
                    have c17b0 : (a0 == 12) = false := beq_eq_false_iff_ne.mpr c17
                    have c17b1 : (a0 != 12) = true := bne_iff_ne.mpr c17
                    simp only [Option.some.injEq, Prod.mk.injEq] at H
                    obtain ⟨rfl, rfl⟩ := H
                    go_enter Try.func38, Try.ntmps38
                    go_wp2
                    go_ret2
                    exact ⟨by first | rfl | (simp; done) | (simp [*]; done), by repeat (first | exact Drawn0.refl _ | apply Drawn0.step)⟩

/-! ### avermentref08_Nums: function 39 -/
def avermentref08_Nums.f  : Option (List Int) := some (([(-9223372036854775808), (-9223372036854775807), (-4294967296), (-2147483648), (-3), (-2), (-1), 0, 1, 2, 3, 2147483648, 4294967296, 4611686018427387904, 9223372036854775806, 9223372036854775807] : List Int))
set_option maxHeartbeats 8000000 in
set_option maxRecDepth 100000 in
theorem avermentref08_Nums.calls  (r : List Int) (w : World) (h : avermentref08_Nums.f  = some r) :
    Calls Try.prog 39 #[] w fun e w' => ∃ v0_ : Value, e = .returned (v0_) ∧ Kd.R (Kd.int .i64) 2 w' w.heap.size (fun _ => True) v0_ r ∧ Below w.heap.size w w' := by
  have HB := Aside0.mk (Below.refl w.heap.size w)
  have H : (some (([(-9223372036854775808), (-9223372036854775807), (-4294967296), (-2147483648), (-3), (-2), (-1), 0, 1, 2, 3, 2147483648, 4294967296, 4611686018427387904, 9223372036854775806, 9223372036854775807] : List Int))) = some r := h
  clear h
  obtain ⟨y151, hy151⟩ : ∃ y_ : List Int, y_ = (([(-9223372036854775808), (-9223372036854775807), (-4294967296), (-2147483648), (-3), (-2), (-1), 0, 1, 2, 3, 2147483648, 4294967296, 4611686018427387904, 9223372036854775806, 9223372036854775807] : List Int)) := ⟨_, rfl⟩
  replace H : (some y151) = some r := by first | (rw [hy151]; with_reducible exact H) | (have H2_ := (Option.bind_some _ _).symm.trans H; rw [hy151]; with_reducible exact H2_) | (have H2_ := (Option.bind_some _ _).symm.trans H; with_reducible exact H2_) | with_reducible exact H | (rw [hy151]; exact H) | exact H
  have Ny151 := Aside0.mk hy151
  clear hy151
  obtain rfl := Option.some.inj H
  go_enter Try.func39, Try.ntmps39
  go_wp2_with (first | ((with_reducible refine gate_dst (N := 1) rfl ?_); refine Kd.R_lit (Kd.int .i64) _ 2 ?hg (N := 1) ?hd (xs := ([(-9223372036854775808), (-9223372036854775807), (-4294967296), (-2147483648), (-3), (-2), (-1), 0, 1, 2, 3, 2147483648, 4294967296, 4611686018427387904, 9223372036854775806, 9223372036854775807] : List Int)) (inner := [.int .i64 (-9223372036854775808), .int .i64 (-9223372036854775807), .int .i64 (-4294967296), .int .i64 (-2147483648), .int .i64 (-3), .int .i64 (-2), .int .i64 (-1), .int .i64 0, .int .i64 1, .int .i64 2, .int .i64 3, .int .i64 2147483648, .int .i64 4294967296, .int .i64 4611686018427387904, .int .i64 9223372036854775806, .int .i64 9223372036854775807]) (ok := fun _ => True) (okp := fun _ => True) ?hr ?hp (fun _ hk => hk) trivial (Below.refl _ _) (Nat.le_refl _) (by simp) ?_; (case hd => rfl); (case hg => rfl); (case hr => first | (go_simp; done) | (go_simp; rfl)); (case hp => exact (Reps.one (show Kd.M (Kd.int .i64) _ _ _ (-9223372036854775808) [.int .i64 (-9223372036854775808)] from rfl) (Reps.one (show Kd.M (Kd.int .i64) _ _ _ (-9223372036854775807) [.int .i64 (-9223372036854775807)] from rfl) (Reps.one (show Kd.M (Kd.int .i64) _ _ _ (-4294967296) [.int .i64 (-4294967296)] from rfl) (Reps.one (show Kd.M (Kd.int .i64) _ _ _ (-2147483648) [.int .i64 (-2147483648)] from rfl) (Reps.one (show Kd.M (Kd.int .i64) _ _ _ (-3) [.int .i64 (-3)] from rfl) (Reps.one (show Kd.M (Kd.int .i64) _ _ _ (-2) [.int .i64 (-2)] from rfl) (Reps.one (show Kd.M (Kd.int .i64) _ _ _ (-1) [.int .i64 (-1)] from rfl) (Reps.one (show Kd.M (Kd.int .i64) _ _ _ 0 [.int .i64 0] from rfl) (Reps.one (show Kd.M (Kd.int .i64) _ _ _ 1 [.int .i64 1] from rfl) (Reps.one (show Kd.M (Kd.int .i64) _ _ _ 2 [.int .i64 2] from rfl) (Reps.one (show Kd.M (Kd.int .i64) _ _ _ 3 [.int .i64 3] from rfl) (Reps.one (show Kd.M (Kd.int .i64) _ _ _ 2147483648 [.int .i64 2147483648] from rfl) (Reps.one (show Kd.M (Kd.int .i64) _ _ _ 4294967296 [.int .i64 4294967296] from rfl) (Reps.one (show Kd.M (Kd.int .i64) _ _ _ 4611686018427387904 [.int .i64 4611686018427387904] from rfl) (Reps.one (show Kd.M (Kd.int .i64) _ _ _ 9223372036854775806 [.int .i64 9223372036854775806] from rfl) (Reps.one (show Kd.M (Kd.int .i64) _ _ _ 9223372036854775807 [.int .i64 9223372036854775807] from rfl) (Reps.none _ _)))))))))))))))))); intro v152 w1 ho2 hb hg_ hnew_; clear hg_ hnew_; (first | rw [← Ny151.out] at ho2 | (simp only [Int.reduceToNat] at ho2; rw [← Ny151.out] at ho2)); have n0_ := Aside0.mk (Kd.R_lower ho2 (below_size (by repeat (first | (with_reducible first | exact HB.out | apply below_alloc | apply pw_below_drewN | apply below_drew1) | exact HB.out)))); have n1_ := Aside0.mk (below_step (by repeat (first | (with_reducible first | exact HB.out | apply below_alloc | apply pw_below_drewN | apply below_drew1) | exact HB.out)) hb); clear HB; have HO153 := n0_; have HB := n1_; clear n0_ n1_; clear hb ho2))
  go_ret
  exact ⟨_, by first | rfl | (simp [errW_none, errW_some] <;> rfl) | (simp [*, errW_none, errW_some] <;> rfl), by (with_reducible repeat (first | apply Kd.R_alloc | apply Kd.R_drewN | apply Kd.R_drew)); exact HO153.out, by repeat (first | (with_reducible first | exact HB.out | apply below_alloc | apply pw_below_drewN | apply below_drew1) | exact HB.out)⟩

end Go.Proofs.Ytiehdiohoehcpaa.PR
