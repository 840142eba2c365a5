-- Written by a program of this session: plain functions and their walks. Lean checks it.
import Derived.Test.YtiehdiohoehcpaaPR0
import Derived.Test.YtiehdiohoehcpaaPR1
namespace Go.Proofs.Ytiehdiohoehcpaa.PR
open Go.RowKit Go.Proofs.YtiehdiohoehcpaaW.PrintWords Go.Proofs.YtiehdiohoehcpaaW.PrintLast Go.Proofs.YtiehdiohoehcpaaW.PrintMore
attribute [local go_sem] max2_int min2_int max_two min_two max_three min_three max_four min_four   -- for this text's walks alone
set_option linter.unusedVariables false
set_option linter.unusedSimpArgs false

/-! ### avermentlaw08_SignSets: function 3 -/
def avermentlaw08_SignSets.f (a0 : Int) (a1 : Int) (a2 : Int) : Option (Bool) := (avermentref08_Bits.f a0).bind fun t109 => ((avermentref08_Bits.f a1).bind fun t110 => ((avermentlaw08_told.f).bind fun t111 => (if t111 = true then ((sign_Right.f a0).bind fun t112 => (if a0 ≥ 1 then (if (t112 == (decide (a0 ≤ 7))) = true then ((sign_Of.f a2).bind fun t113 => ((avermentref08_Of.f a2).bind fun t114 => (if t113 = t114 then ((sign_Has.f a0 a2).bind fun t115 => ((avermentref08_Has.f t109 a2).bind fun t116 => (if (t115 == t116) = true then ((sign_Join.f a0 a1).bind fun t117 => (if t117 = (Go.bits .or .i64 t109 t110) then ((sign_Meet.f a0 a1).bind fun t118 => (if t118 = (Go.bits .and .i64 t109 t110) then ((sign_Within.f a0 a1).bind fun t119 => (some (t119 == ((Go.bits .or .i64 t109 t110) == t110)))) else (some false))) else (some false))) else (some false)))) else (some false)))) else (some false)) else (if (t112 == false) = true then ((sign_Of.f a2).bind fun t120 => ((avermentref08_Of.f a2).bind fun t121 => (if t120 = t121 then ((sign_Has.f a0 a2).bind fun t122 => ((avermentref08_Has.f t109 a2).bind fun t123 => (if (t122 == t123) = true then ((sign_Join.f a0 a1).bind fun t124 => (if t124 = (Go.bits .or .i64 t109 t110) then ((sign_Meet.f a0 a1).bind fun t125 => (if t125 = (Go.bits .and .i64 t109 t110) then ((sign_Within.f a0 a1).bind fun t126 => (some (t126 == ((Go.bits .or .i64 t109 t110) == t110)))) else (some false))) else (some false))) else (some false)))) else (some false)))) else (some false)))) else (some false))))
set_option maxHeartbeats 8000000 in
set_option maxRecDepth 100000 in
theorem avermentlaw08_SignSets.calls (a0 : Int) (a1 : Int) (a2 : Int) (r : Bool) (w : World) (h : avermentlaw08_SignSets.f a0 a1 a2 = some r) :
    Calls Try.prog 3 #[.int .i64 a0, .int .i64 a1, .int .i64 a2] w fun e w' => e = .returned (.bool r) ∧ Below w.heap.size w w' := by
  have HB := Aside0.mk (Below.refl w.heap.size w)
  have H : ((avermentref08_Bits.f a0).bind fun t109 => ((avermentref08_Bits.f a1).bind fun t110 => ((avermentlaw08_told.f).bind fun t111 => (if t111 = true then ((sign_Right.f a0).bind fun t112 => (if a0 ≥ 1 then (if (t112 == (decide (a0 ≤ 7))) = true then ((sign_Of.f a2).bind fun t113 => ((avermentref08_Of.f a2).bind fun t114 => (if t113 = t114 then ((sign_Has.f a0 a2).bind fun t115 => ((avermentref08_Has.f t109 a2).bind fun t116 => (if (t115 == t116) = true then ((sign_Join.f a0 a1).bind fun t117 => (if t117 = (Go.bits .or .i64 t109 t110) then ((sign_Meet.f a0 a1).bind fun t118 => (if t118 = (Go.bits .and .i64 t109 t110) then ((sign_Within.f a0 a1).bind fun t119 => (some (t119 == ((Go.bits .or .i64 t109 t110) == t110)))) else (some false))) else (some false))) else (some false)))) else (some false)))) else (some false)) else (if (t112 == false) = true then ((sign_Of.f a2).bind fun t120 => ((avermentref08_Of.f a2).bind fun t121 => (if t120 = t121 then ((sign_Has.f a0 a2).bind fun t122 => ((avermentref08_Has.f t109 a2).bind fun t123 => (if (t122 == t123) = true then ((sign_Join.f a0 a1).bind fun t124 => (if t124 = (Go.bits .or .i64 t109 t110) then ((sign_Meet.f a0 a1).bind fun t125 => (if t125 = (Go.bits .and .i64 t109 t110) then ((sign_Within.f a0 a1).bind fun t126 => (some (t126 == ((Go.bits .or .i64 t109 t110) == t110)))) else (some false))) else (some false))) else (some false)))) else (some false)))) else (some false)))) else (some false))))) = some r := h
  clear h
  replace H := Option.bind_eq_some_iff.mp H
  obtain ⟨t109, A40, H⟩ := H
  replace H : ((avermentref08_Bits.f a1).bind fun t110 => ((avermentlaw08_told.f).bind fun t111 => (if t111 = true then ((sign_Right.f a0).bind fun t112 => (if a0 ≥ 1 then (if (t112 == (decide (a0 ≤ 7))) = true then ((sign_Of.f a2).bind fun t113 => ((avermentref08_Of.f a2).bind fun t114 => (if t113 = t114 then ((sign_Has.f a0 a2).bind fun t115 => ((avermentref08_Has.f t109 a2).bind fun t116 => (if (t115 == t116) = true then ((sign_Join.f a0 a1).bind fun t117 => (if t117 = (Go.bits .or .i64 t109 t110) then ((sign_Meet.f a0 a1).bind fun t118 => (if t118 = (Go.bits .and .i64 t109 t110) then ((sign_Within.f a0 a1).bind fun t119 => (some (t119 == ((Go.bits .or .i64 t109 t110) == t110)))) else (some false))) else (some false))) else (some false)))) else (some false)))) else (some false)) else (if (t112 == false) = true then ((sign_Of.f a2).bind fun t120 => ((avermentref08_Of.f a2).bind fun t121 => (if t120 = t121 then ((sign_Has.f a0 a2).bind fun t122 => ((avermentref08_Has.f t109 a2).bind fun t123 => (if (t122 == t123) = true then ((sign_Join.f a0 a1).bind fun t124 => (if t124 = (Go.bits .or .i64 t109 t110) then ((sign_Meet.f a0 a1).bind fun t125 => (if t125 = (Go.bits .and .i64 t109 t110) then ((sign_Within.f a0 a1).bind fun t126 => (some (t126 == ((Go.bits .or .i64 t109 t110) == t110)))) else (some false))) else (some false))) else (some false)))) else (some false)))) else (some false)))) else (some false)))) = some r := H
  have A4 := Aside0.mk A40
  clear A40
  replace H := Option.bind_eq_some_iff.mp H
  obtain ⟨t110, A50, H⟩ := H
  replace H : ((avermentlaw08_told.f).bind fun t111 => (if t111 = true then ((sign_Right.f a0).bind fun t112 => (if a0 ≥ 1 then (if (t112 == (decide (a0 ≤ 7))) = true then ((sign_Of.f a2).bind fun t113 => ((avermentref08_Of.f a2).bind fun t114 => (if t113 = t114 then ((sign_Has.f a0 a2).bind fun t115 => ((avermentref08_Has.f t109 a2).bind fun t116 => (if (t115 == t116) = true then ((sign_Join.f a0 a1).bind fun t117 => (if t117 = (Go.bits .or .i64 t109 t110) then ((sign_Meet.f a0 a1).bind fun t118 => (if t118 = (Go.bits .and .i64 t109 t110) then ((sign_Within.f a0 a1).bind fun t119 => (some (t119 == ((Go.bits .or .i64 t109 t110) == t110)))) else (some false))) else (some false))) else (some false)))) else (some false)))) else (some false)) else (if (t112 == false) = true then ((sign_Of.f a2).bind fun t120 => ((avermentref08_Of.f a2).bind fun t121 => (if t120 = t121 then ((sign_Has.f a0 a2).bind fun t122 => ((avermentref08_Has.f t109 a2).bind fun t123 => (if (t122 == t123) = true then ((sign_Join.f a0 a1).bind fun t124 => (if t124 = (Go.bits .or .i64 t109 t110) then ((sign_Meet.f a0 a1).bind fun t125 => (if t125 = (Go.bits .and .i64 t109 t110) then ((sign_Within.f a0 a1).bind fun t126 => (some (t126 == ((Go.bits .or .i64 t109 t110) == t110)))) else (some false))) else (some false))) else (some false)))) else (some false)))) else (some false)))) else (some false))) = some r := H
  have A5 := Aside0.mk A50
  clear A50
  replace H := Option.bind_eq_some_iff.mp H
  obtain ⟨t111, A60, H⟩ := H
  replace H : (if t111 = true then ((sign_Right.f a0).bind fun t112 => (if a0 ≥ 1 then (if (t112 == (decide (a0 ≤ 7))) = true then ((sign_Of.f a2).bind fun t113 => ((avermentref08_Of.f a2).bind fun t114 => (if t113 = t114 then ((sign_Has.f a0 a2).bind fun t115 => ((avermentref08_Has.f t109 a2).bind fun t116 => (if (t115 == t116) = true then ((sign_Join.f a0 a1).bind fun t117 => (if t117 = (Go.bits .or .i64 t109 t110) then ((sign_Meet.f a0 a1).bind fun t118 => (if t118 = (Go.bits .and .i64 t109 t110) then ((sign_Within.f a0 a1).bind fun t119 => (some (t119 == ((Go.bits .or .i64 t109 t110) == t110)))) else (some false))) else (some false))) else (some false)))) else (some false)))) else (some false)) else (if (t112 == false) = true then ((sign_Of.f a2).bind fun t120 => ((avermentref08_Of.f a2).bind fun t121 => (if t120 = t121 then ((sign_Has.f a0 a2).bind fun t122 => ((avermentref08_Has.f t109 a2).bind fun t123 => (if (t122 == t123) = true then ((sign_Join.f a0 a1).bind fun t124 => (if t124 = (Go.bits .or .i64 t109 t110) then ((sign_Meet.f a0 a1).bind fun t125 => (if t125 = (Go.bits .and .i64 t109 t110) then ((sign_Within.f a0 a1).bind fun t126 => (some (t126 == ((Go.bits .or .i64 t109 t110) == t110)))) else (some false))) else (some false))) else (some false)))) else (some false)))) else (some false)))) else (some false)) = some r := H
  have A6 := Aside0.mk A60
  clear A60
  by_cases c7 : t111 = true
  · subst c7
    have H1 : ((sign_Right.f a0).bind fun t112 => (if a0 ≥ 1 then (if (t112 == (decide (a0 ≤ 7))) = true then ((sign_Of.f a2).bind fun t113 => ((avermentref08_Of.f a2).bind fun t114 => (if t113 = t114 then ((sign_Has.f a0 a2).bind fun t115 => ((avermentref08_Has.f t109 a2).bind fun t116 => (if (t115 == t116) = true then ((sign_Join.f a0 a1).bind fun t117 => (if t117 = (Go.bits .or .i64 t109 t110) then ((sign_Meet.f a0 a1).bind fun t118 => (if t118 = (Go.bits .and .i64 t109 t110) then ((sign_Within.f a0 a1).bind fun t119 => (some (t119 == ((Go.bits .or .i64 t109 t110) == t110)))) else (some false))) else (some false))) else (some false)))) else (some false)))) else (some false)) else (if (t112 == false) = true then ((sign_Of.f a2).bind fun t120 => ((avermentref08_Of.f a2).bind fun t121 => (if t120 = t121 then ((sign_Has.f a0 a2).bind fun t122 => ((avermentref08_Has.f t109 a2).bind fun t123 => (if (t122 == t123) = true then ((sign_Join.f a0 a1).bind fun t124 => (if t124 = (Go.bits .or .i64 t109 t110) then ((sign_Meet.f a0 a1).bind fun t125 => (if t125 = (Go.bits .and .i64 t109 t110) then ((sign_Within.f a0 a1).bind fun t126 => (some (t126 == ((Go.bits .or .i64 t109 t110) == t110)))) else (some false))) else (some false))) else (some false)))) else (some false)))) else (some false)))) = some r := by rw [if_pos rfl] at H; exact H
    clear H
    have H := H1
    clear H1
    replace H := Option.bind_eq_some_iff.mp H
    obtain ⟨t112, A80, H⟩ := H
    replace H : (if a0 ≥ 1 then (if (t112 == (decide (a0 ≤ 7))) = true then ((sign_Of.f a2).bind fun t113 => ((avermentref08_Of.f a2).bind fun t114 => (if t113 = t114 then ((sign_Has.f a0 a2).bind fun t115 => ((avermentref08_Has.f t109 a2).bind fun t116 => (if (t115 == t116) = true then ((sign_Join.f a0 a1).bind fun t117 => (if t117 = (Go.bits .or .i64 t109 t110) then ((sign_Meet.f a0 a1).bind fun t118 => (if t118 = (Go.bits .and .i64 t109 t110) then ((sign_Within.f a0 a1).bind fun t119 => (some (t119 == ((Go.bits .or .i64 t109 t110) == t110)))) else (some false))) else (some false))) else (some false)))) else (some false)))) else (some false)) else (if (t112 == false) = true then ((sign_Of.f a2).bind fun t120 => ((avermentref08_Of.f a2).bind fun t121 => (if t120 = t121 then ((sign_Has.f a0 a2).bind fun t122 => ((avermentref08_Has.f t109 a2).bind fun t123 => (if (t122 == t123) = true then ((sign_Join.f a0 a1).bind fun t124 => (if t124 = (Go.bits .or .i64 t109 t110) then ((sign_Meet.f a0 a1).bind fun t125 => (if t125 = (Go.bits .and .i64 t109 t110) then ((sign_Within.f a0 a1).bind fun t126 => (some (t126 == ((Go.bits .or .i64 t109 t110) == t110)))) else (some false))) else (some false))) else (some false)))) else (some false)))) else (some false))) = some r := H
    have A8 := Aside0.mk A80
    clear A80
    by_cases c9 : a0 ≥ 1
    · rw [if_pos c9] at H
      have c9b0 : decide (1 ≤ a0) = true := decide_eq_true c9
      clear c9
      by_cases c10 : (t112 == (decide (a0 ≤ 7))) = true
      · rw [if_pos c10] at H
        have c10b0 : (t112 == (decide (a0 ≤ 7))) = true := c10
        (try (have c10b1 : decide (t112 = (decide (a0 ≤ 7))) = true := by simpa using c10))
        (try (have c10b2 : (t112 == (decide (a0 ≤ 7))) = true := by simpa using c10))
        clear c10
        replace H := Option.bind_eq_some_iff.mp H
        obtain ⟨t113, A110, H⟩ := H
        replace H : ((avermentref08_Of.f a2).bind fun t114 => (if t113 = t114 then ((sign_Has.f a0 a2).bind fun t115 => ((avermentref08_Has.f t109 a2).bind fun t116 => (if (t115 == t116) = true then ((sign_Join.f a0 a1).bind fun t117 => (if t117 = (Go.bits .or .i64 t109 t110) then ((sign_Meet.f a0 a1).bind fun t118 => (if t118 = (Go.bits .and .i64 t109 t110) then ((sign_Within.f a0 a1).bind fun t119 => (some (t119 == ((Go.bits .or .i64 t109 t110) == t110)))) else (some false))) else (some false))) else (some false)))) else (some false))) = some r := H
        have A11 := Aside0.mk A110
        clear A110
        replace H := Option.bind_eq_some_iff.mp H
        obtain ⟨t114, A120, H⟩ := H
        replace H : (if t113 = t114 then ((sign_Has.f a0 a2).bind fun t115 => ((avermentref08_Has.f t109 a2).bind fun t116 => (if (t115 == t116) = true then ((sign_Join.f a0 a1).bind fun t117 => (if t117 = (Go.bits .or .i64 t109 t110) then ((sign_Meet.f a0 a1).bind fun t118 => (if t118 = (Go.bits .and .i64 t109 t110) then ((sign_Within.f a0 a1).bind fun t119 => (some (t119 == ((Go.bits .or .i64 t109 t110) == t110)))) else (some false))) else (some false))) else (some false)))) else (some false)) = some r := H
        have A12 := Aside0.mk A120
        clear A120
        by_cases c13 : t113 = t114
        · rw [if_pos c13] at H
          have c13b0 : (t113 == t114) = true := beq_iff_eq.mpr c13
          have c13b1 : (t113 != t114) = false := bne_eq_false_iff_eq.mpr c13
          clear c13
          replace H := Option.bind_eq_some_iff.mp H
          obtain ⟨t115, A140, H⟩ := H
          replace H : ((avermentref08_Has.f t109 a2).bind fun t116 => (if (t115 == t116) = true then ((sign_Join.f a0 a1).bind fun t117 => (if t117 = (Go.bits .or .i64 t109 t110) then ((sign_Meet.f a0 a1).bind fun t118 => (if t118 = (Go.bits .and .i64 t109 t110) then ((sign_Within.f a0 a1).bind fun t119 => (some (t119 == ((Go.bits .or .i64 t109 t110) == t110)))) else (some false))) else (some false))) else (some false))) = some r := H
          have A14 := Aside0.mk A140
          clear A140
          replace H := Option.bind_eq_some_iff.mp H
          obtain ⟨t116, A150, H⟩ := H
          replace H : (if (t115 == t116) = true then ((sign_Join.f a0 a1).bind fun t117 => (if t117 = (Go.bits .or .i64 t109 t110) then ((sign_Meet.f a0 a1).bind fun t118 => (if t118 = (Go.bits .and .i64 t109 t110) then ((sign_Within.f a0 a1).bind fun t119 => (some (t119 == ((Go.bits .or .i64 t109 t110) == t110)))) else (some false))) else (some false))) else (some false)) = some r := H
          have A15 := Aside0.mk A150
          clear A150
          by_cases c16 : (t115 == t116) = true
          · rw [if_pos c16] at H
            have c16b0 : (t115 == t116) = true := c16
            (try (have c16b1 : decide (t115 = t116) = true := by simpa using c16))
            (try (have c16b2 : (t115 == t116) = true := by simpa using c16))
            clear c16
            replace H := Option.bind_eq_some_iff.mp H
            obtain ⟨t117, A170, H⟩ := H
            replace H : (if t117 = (Go.bits .or .i64 t109 t110) then ((sign_Meet.f a0 a1).bind fun t118 => (if t118 = (Go.bits .and .i64 t109 t110) then ((sign_Within.f a0 a1).bind fun t119 => (some (t119 == ((Go.bits .or .i64 t109 t110) == t110)))) else (some false))) else (some false)) = some r := H
            have A17 := Aside0.mk A170
            clear A170
            by_cases c18 : t117 = (Go.bits .or .i64 t109 t110)
            · rw [if_pos c18] at H
              have c18b0 : (t117 == (Go.bits .or .i64 t109 t110)) = true := beq_iff_eq.mpr c18
              have c18b1 : (t117 != (Go.bits .or .i64 t109 t110)) = false := bne_eq_false_iff_eq.mpr c18
              clear c18
              replace H := Option.bind_eq_some_iff.mp H
              obtain ⟨t118, A190, H⟩ := H
              replace H : (if t118 = (Go.bits .and .i64 t109 t110) then ((sign_Within.f a0 a1).bind fun t119 => (some (t119 == ((Go.bits .or .i64 t109 t110) == t110)))) else (some false)) = some r := H
              have A19 := Aside0.mk A190
              clear A190
              by_cases c20 : t118 = (Go.bits .and .i64 t109 t110)
              · rw [if_pos c20] at H
                have c20b0 : (t118 == (Go.bits .and .i64 t109 t110)) = true := beq_iff_eq.mpr c20
                have c20b1 : (t118 != (Go.bits .and .i64 t109 t110)) = false := bne_eq_false_iff_eq.mpr c20
                clear c20
                replace H := Option.bind_eq_some_iff.mp H
                obtain ⟨t119, A210, H⟩ := H
                replace H : (some (t119 == ((Go.bits .or .i64 t109 t110) == t110))) = some r := H
                have A21 := Aside0.mk A210
                clear A210
                obtain rfl := Option.some.inj H
                go_enter Try.func3, Try.ntmps3
                go_wp2_with (first | ((with_reducible refine gate_callee (f := 13) rfl ?_); refine goesL_ (some 10) rfl rfl Try.func13 (by kernel_rfl) rfl #[.int .i64 a0] rfl (by (try simp only [List.map_toArray, List.map_cons, List.map_nil]); first | done | rfl | (simp only [List.length_drop, List.length_take]; rfl)) ?_; (with_reducible refine (avermentref08_Bits.calls a0 t109 _ A4.out).mono ?_); rintro e w' ⟨rfl, ⟨nd, rfl⟩⟩; refine ⟨_, rfl, ?_⟩) | ((with_reducible refine gate_callee (f := 13) rfl ?_); refine goesL_ (some 12) rfl rfl Try.func13 (by kernel_rfl) rfl #[.int .i64 a1] rfl (by (try simp only [List.map_toArray, List.map_cons, List.map_nil]); first | done | rfl | (simp only [List.length_drop, List.length_take]; rfl)) ?_; (with_reducible refine (avermentref08_Bits.calls a1 t110 _ A5.out).mono ?_); rintro e w' ⟨rfl, ⟨nd, rfl⟩⟩; refine ⟨_, rfl, ?_⟩) | ((with_reducible refine gate_callee (f := 14) rfl ?_); refine goesL_ (some 13) rfl rfl Try.func14 (by kernel_rfl) rfl #[] rfl (by (try simp only [List.map_toArray, List.map_cons, List.map_nil]); first | done | rfl | (simp only [List.length_drop, List.length_take]; rfl)) ?_; (with_reducible refine (avermentlaw08_told.calls  true _ A6.out).mono ?_); rintro e w22 ⟨rfl, hb⟩; refine ⟨_, rfl, ?_⟩; have n0_ := Aside0.mk (below_step (by repeat (first | (with_reducible first | exact HB.out | apply below_alloc | apply pw_below_drewN | apply below_drew1) | exact HB.out)) hb); clear HB; have HB := n0_; clear n0_; (try clear hb); (try clear hb2); (try clear hk); (try clear hi)) | (go_at_call 15; (with_reducible refine (sign_Right.calls a0 t112 _ A8.out).mono ?_); rintro e w' ⟨rfl, ⟨nd, rfl⟩⟩) | (go_at_call 16; (with_reducible refine (sign_Of.calls a2 t113 _ A11.out).mono ?_); rintro e w' ⟨rfl, ⟨nd, rfl⟩⟩) | (go_at_call 17; (with_reducible refine (avermentref08_Of.calls a2 t114 _ A12.out).mono ?_); rintro e w' ⟨rfl, ⟨nd, rfl⟩⟩) | (go_at_call 18; (with_reducible refine (sign_Has.calls a0 a2 t115 _ A14.out).mono ?_); rintro e w' ⟨rfl, ⟨nd, rfl⟩⟩) | (go_at_call 19; (with_reducible refine (avermentref08_Has.calls t109 a2 t116 _ A15.out).mono ?_); rintro e w' ⟨rfl, ⟨nd, rfl⟩⟩) | (go_at_call 20; (with_reducible refine (sign_Join.calls a0 a1 t117 _ A17.out).mono ?_); rintro e w' ⟨rfl, ⟨nd, rfl⟩⟩) | (go_at_call 21; (with_reducible refine (sign_Meet.calls a0 a1 t118 _ A19.out).mono ?_); rintro e w' ⟨rfl, ⟨nd, rfl⟩⟩) | (go_at_call 22; (with_reducible refine (sign_Within.calls a0 a1 t119 _ A21.out).mono ?_); rintro e w' ⟨rfl, ⟨nd, rfl⟩⟩))
                go_ret
                exact ⟨by first | rfl | (simp [errW_none, errW_some] <;> rfl) | (simp [*, errW_none, errW_some] <;> rfl), by repeat (first | (with_reducible first | exact HB.out | apply below_alloc | apply pw_below_drewN | apply below_drew1) | exact HB.out)⟩
              · rw [if_neg c20] at H
                have c20b0 : (t118 == (Go.bits .and .i64 t109 t110)) = false := beq_eq_false_iff_ne.mpr c20
                have c20b1 : (t118 != (Go.bits .and .i64 t109 t110)) = true := bne_iff_ne.mpr c20
                obtain rfl := Option.some.inj H
                go_enter Try.func3, Try.ntmps3
                go_wp2_with (first | ((with_reducible refine gate_callee (f := 13) rfl ?_); refine goesL_ (some 10) rfl rfl Try.func13 (by kernel_rfl) rfl #[.int .i64 a0] rfl (by (try simp only [List.map_toArray, List.map_cons, List.map_nil]); first | done | rfl | (simp only [List.length_drop, List.length_take]; rfl)) ?_; (with_reducible refine (avermentref08_Bits.calls a0 t109 _ A4.out).mono ?_); rintro e w' ⟨rfl, ⟨nd, rfl⟩⟩; refine ⟨_, rfl, ?_⟩) | ((with_reducible refine gate_callee (f := 13) rfl ?_); refine goesL_ (some 12) rfl rfl Try.func13 (by kernel_rfl) rfl #[.int .i64 a1] rfl (by (try simp only [List.map_toArray, List.map_cons, List.map_nil]); first | done | rfl | (simp only [List.length_drop, List.length_take]; rfl)) ?_; (with_reducible refine (avermentref08_Bits.calls a1 t110 _ A5.out).mono ?_); rintro e w' ⟨rfl, ⟨nd, rfl⟩⟩; refine ⟨_, rfl, ?_⟩) | ((with_reducible refine gate_callee (f := 14) rfl ?_); refine goesL_ (some 13) rfl rfl Try.func14 (by kernel_rfl) rfl #[] rfl (by (try simp only [List.map_toArray, List.map_cons, List.map_nil]); first | done | rfl | (simp only [List.length_drop, List.length_take]; rfl)) ?_; (with_reducible refine (avermentlaw08_told.calls  true _ A6.out).mono ?_); rintro e w23 ⟨rfl, hb⟩; refine ⟨_, rfl, ?_⟩; have n0_ := Aside0.mk (below_step (by repeat (first | (with_reducible first | exact HB.out | apply below_alloc | apply pw_below_drewN | apply below_drew1) | exact HB.out)) hb); clear HB; have HB := n0_; clear n0_; (try clear hb); (try clear hb2); (try clear hk); (try clear hi)) | (go_at_call 15; (with_reducible refine (sign_Right.calls a0 t112 _ A8.out).mono ?_); rintro e w' ⟨rfl, ⟨nd, rfl⟩⟩) | (go_at_call 16; (with_reducible refine (sign_Of.calls a2 t113 _ A11.out).mono ?_); rintro e w' ⟨rfl, ⟨nd, rfl⟩⟩) | (go_at_call 17; (with_reducible refine (avermentref08_Of.calls a2 t114 _ A12.out).mono ?_); rintro e w' ⟨rfl, ⟨nd, rfl⟩⟩) | (go_at_call 18; (with_reducible refine (sign_Has.calls a0 a2 t115 _ A14.out).mono ?_); rintro e w' ⟨rfl, ⟨nd, rfl⟩⟩) | (go_at_call 19; (with_reducible refine (avermentref08_Has.calls t109 a2 t116 _ A15.out).mono ?_); rintro e w' ⟨rfl, ⟨nd, rfl⟩⟩) | (go_at_call 20; (with_reducible refine (sign_Join.calls a0 a1 t117 _ A17.out).mono ?_); rintro e w' ⟨rfl, ⟨nd, rfl⟩⟩) | (go_at_call 21; (with_reducible refine (sign_Meet.calls a0 a1 t118 _ A19.out).mono ?_); rintro e w' ⟨rfl, ⟨nd, rfl⟩⟩))
                go_ret
                exact ⟨by first | rfl | (simp [errW_none, errW_some] <;> rfl) | (simp [*, errW_none, errW_some] <;> rfl), by repeat (first | (with_reducible first | exact HB.out | apply below_alloc | apply pw_below_drewN | apply below_drew1) | exact HB.out)⟩
            · rw [if_neg c18] at H
              have c18b0 : (t117 == (Go.bits .or .i64 t109 t110)) = false := beq_eq_false_iff_ne.mpr c18
              have c18b1 : (t117 != (Go.bits .or .i64 t109 t110)) = true := bne_iff_ne.mpr c18
              obtain rfl := Option.some.inj H
              go_enter Try.func3, Try.ntmps3
              go_wp2_with (first | ((with_reducible refine gate_callee (f := 13) rfl ?_); refine goesL_ (some 10) rfl rfl Try.func13 (by kernel_rfl) rfl #[.int .i64 a0] rfl (by (try simp only [List.map_toArray, List.map_cons, List.map_nil]); first | done | rfl | (simp only [List.length_drop, List.length_take]; rfl)) ?_; (with_reducible refine (avermentref08_Bits.calls a0 t109 _ A4.out).mono ?_); rintro e w' ⟨rfl, ⟨nd, rfl⟩⟩; refine ⟨_, rfl, ?_⟩) | ((with_reducible refine gate_callee (f := 13) rfl ?_); refine goesL_ (some 12) rfl rfl Try.func13 (by kernel_rfl) rfl #[.int .i64 a1] rfl (by (try simp only [List.map_toArray, List.map_cons, List.map_nil]); first | done | rfl | (simp only [List.length_drop, List.length_take]; rfl)) ?_; (with_reducible refine (avermentref08_Bits.calls a1 t110 _ A5.out).mono ?_); rintro e w' ⟨rfl, ⟨nd, rfl⟩⟩; refine ⟨_, rfl, ?_⟩) | ((with_reducible refine gate_callee (f := 14) rfl ?_); refine goesL_ (some 13) rfl rfl Try.func14 (by kernel_rfl) rfl #[] rfl (by (try simp only [List.map_toArray, List.map_cons, List.map_nil]); first | done | rfl | (simp only [List.length_drop, List.length_take]; rfl)) ?_; (with_reducible refine (avermentlaw08_told.calls  true _ A6.out).mono ?_); rintro e w24 ⟨rfl, hb⟩; refine ⟨_, rfl, ?_⟩; have n0_ := Aside0.mk (below_step (by repeat (first | (with_reducible first | exact HB.out | apply below_alloc | apply pw_below_drewN | apply below_drew1) | exact HB.out)) hb); clear HB; have HB := n0_; clear n0_; (try clear hb); (try clear hb2); (try clear hk); (try clear hi)) | (go_at_call 15; (with_reducible refine (sign_Right.calls a0 t112 _ A8.out).mono ?_); rintro e w' ⟨rfl, ⟨nd, rfl⟩⟩) | (go_at_call 16; (with_reducible refine (sign_Of.calls a2 t113 _ A11.out).mono ?_); rintro e w' ⟨rfl, ⟨nd, rfl⟩⟩) | (go_at_call 17; (with_reducible refine (avermentref08_Of.calls a2 t114 _ A12.out).mono ?_); rintro e w' ⟨rfl, ⟨nd, rfl⟩⟩) | (go_at_call 18; (with_reducible refine (sign_Has.calls a0 a2 t115 _ A14.out).mono ?_); rintro e w' ⟨rfl, ⟨nd, rfl⟩⟩) | (go_at_call 19; (with_reducible refine (avermentref08_Has.calls t109 a2 t116 _ A15.out).mono ?_); rintro e w' ⟨rfl, ⟨nd, rfl⟩⟩) | (go_at_call 20; (with_reducible refine (sign_Join.calls a0 a1 t117 _ A17.out).mono ?_); rintro e w' ⟨rfl, ⟨nd, rfl⟩⟩))
              go_ret
              exact ⟨by first | rfl | (simp [errW_none, errW_some] <;> rfl) | (simp [*, errW_none, errW_some] <;> rfl), by repeat (first | (with_reducible first | exact HB.out | apply below_alloc | apply pw_below_drewN | apply below_drew1) | exact HB.out)⟩
          · rw [if_neg c16] at H
            have c16b0 : (t115 == t116) = false := by simpa using c16
            (try (have c16b1 : decide (t115 = t116) = false := by simpa using c16))
            (try (have c16b2 : (t115 == t116) = false := by simpa using c16))
            (try (have c16b3 : ¬ (t115 = t116) := by simpa using c16))
            clear c16
            obtain rfl := Option.some.inj H
            go_enter Try.func3, Try.ntmps3
            go_wp2_with (first | ((with_reducible refine gate_callee (f := 13) rfl ?_); refine goesL_ (some 10) rfl rfl Try.func13 (by kernel_rfl) rfl #[.int .i64 a0] rfl (by (try simp only [List.map_toArray, List.map_cons, List.map_nil]); first | done | rfl | (simp only [List.length_drop, List.length_take]; rfl)) ?_; (with_reducible refine (avermentref08_Bits.calls a0 t109 _ A4.out).mono ?_); rintro e w' ⟨rfl, ⟨nd, rfl⟩⟩; refine ⟨_, rfl, ?_⟩) | ((with_reducible refine gate_callee (f := 13) rfl ?_); refine goesL_ (some 12) rfl rfl Try.func13 (by kernel_rfl) rfl #[.int .i64 a1] rfl (by (try simp only [List.map_toArray, List.map_cons, List.map_nil]); first | done | rfl | (simp only [List.length_drop, List.length_take]; rfl)) ?_; (with_reducible refine (avermentref08_Bits.calls a1 t110 _ A5.out).mono ?_); rintro e w' ⟨rfl, ⟨nd, rfl⟩⟩; refine ⟨_, rfl, ?_⟩) | ((with_reducible refine gate_callee (f := 14) rfl ?_); refine goesL_ (some 13) rfl rfl Try.func14 (by kernel_rfl) rfl #[] rfl (by (try simp only [List.map_toArray, List.map_cons, List.map_nil]); first | done | rfl | (simp only [List.length_drop, List.length_take]; rfl)) ?_; (with_reducible refine (avermentlaw08_told.calls  true _ A6.out).mono ?_); rintro e w25 ⟨rfl, hb⟩; refine ⟨_, rfl, ?_⟩; have n0_ := Aside0.mk (below_step (by repeat (first | (with_reducible first | exact HB.out | apply below_alloc | apply pw_below_drewN | apply below_drew1) | exact HB.out)) hb); clear HB; have HB := n0_; clear n0_; (try clear hb); (try clear hb2); (try clear hk); (try clear hi)) | (go_at_call 15; (with_reducible refine (sign_Right.calls a0 t112 _ A8.out).mono ?_); rintro e w' ⟨rfl, ⟨nd, rfl⟩⟩) | (go_at_call 16; (with_reducible refine (sign_Of.calls a2 t113 _ A11.out).mono ?_); rintro e w' ⟨rfl, ⟨nd, rfl⟩⟩) | (go_at_call 17; (with_reducible refine (avermentref08_Of.calls a2 t114 _ A12.out).mono ?_); rintro e w' ⟨rfl, ⟨nd, rfl⟩⟩) | (go_at_call 18; (with_reducible refine (sign_Has.calls a0 a2 t115 _ A14.out).mono ?_); rintro e w' ⟨rfl, ⟨nd, rfl⟩⟩) | (go_at_call 19; (with_reducible refine (avermentref08_Has.calls t109 a2 t116 _ A15.out).mono ?_); rintro e w' ⟨rfl, ⟨nd, rfl⟩⟩))
            go_ret
            exact ⟨by first | rfl | (simp [errW_none, errW_some] <;> rfl) | (simp [*, errW_none, errW_some] <;> rfl), by repeat (first | (with_reducible first | exact HB.out | apply below_alloc | apply pw_below_drewN | apply below_drew1) | exact HB.out)⟩
        · rw [if_neg c13] at H
          have c13b0 : (t113 == t114) = false := beq_eq_false_iff_ne.mpr c13
          have c13b1 : (t113 != t114) = true := bne_iff_ne.mpr c13
          obtain rfl := Option.some.inj H
          go_enter Try.func3, Try.ntmps3
          go_wp2_with (first | ((with_reducible refine gate_callee (f := 13) rfl ?_); refine goesL_ (some 10) rfl rfl Try.func13 (by kernel_rfl) rfl #[.int .i64 a0] rfl (by (try simp only [List.map_toArray, List.map_cons, List.map_nil]); first | done | rfl | (simp only [List.length_drop, List.length_take]; rfl)) ?_; (with_reducible refine (avermentref08_Bits.calls a0 t109 _ A4.out).mono ?_); rintro e w' ⟨rfl, ⟨nd, rfl⟩⟩; refine ⟨_, rfl, ?_⟩) | ((with_reducible refine gate_callee (f := 13) rfl ?_); refine goesL_ (some 12) rfl rfl Try.func13 (by kernel_rfl) rfl #[.int .i64 a1] rfl (by (try simp only [List.map_toArray, List.map_cons, List.map_nil]); first | done | rfl | (simp only [List.length_drop, List.length_take]; rfl)) ?_; (with_reducible refine (avermentref08_Bits.calls a1 t110 _ A5.out).mono ?_); rintro e w' ⟨rfl, ⟨nd, rfl⟩⟩; refine ⟨_, rfl, ?_⟩) | ((with_reducible refine gate_callee (f := 14) rfl ?_); refine goesL_ (some 13) rfl rfl Try.func14 (by kernel_rfl) rfl #[] rfl (by (try simp only [List.map_toArray, List.map_cons, List.map_nil]); first | done | rfl | (simp only [List.length_drop, List.length_take]; rfl)) ?_; (with_reducible refine (avermentlaw08_told.calls  true _ A6.out).mono ?_); rintro e w26 ⟨rfl, hb⟩; refine ⟨_, rfl, ?_⟩; have n0_ := Aside0.mk (below_step (by repeat (first | (with_reducible first | exact HB.out | apply below_alloc | apply pw_below_drewN | apply below_drew1) | exact HB.out)) hb); clear HB; have HB := n0_; clear n0_; (try clear hb); (try clear hb2); (try clear hk); (try clear hi)) | (go_at_call 15; (with_reducible refine (sign_Right.calls a0 t112 _ A8.out).mono ?_); rintro e w' ⟨rfl, ⟨nd, rfl⟩⟩) | (go_at_call 16; (with_reducible refine (sign_Of.calls a2 t113 _ A11.out).mono ?_); rintro e w' ⟨rfl, ⟨nd, rfl⟩⟩) | (go_at_call 17; (with_reducible refine (avermentref08_Of.calls a2 t114 _ A12.out).mono ?_); rintro e w' ⟨rfl, ⟨nd, rfl⟩⟩))
          go_ret
          exact ⟨by first | rfl | (simp [errW_none, errW_some] <;> rfl) | (simp [*, errW_none, errW_some] <;> rfl), by repeat (first | (with_reducible first | exact HB.out | apply below_alloc | apply pw_below_drewN | apply below_drew1) | exact HB.out)⟩
      · rw [if_neg c10] at H
        have c10b0 : (t112 == (decide (a0 ≤ 7))) = false := by simpa using c10
        (try (have c10b1 : decide (t112 = (decide (a0 ≤ 7))) = false := by simpa using c10))
        (try (have c10b2 : (t112 == (decide (a0 ≤ 7))) = false := by simpa using c10))
        (try (have c10b3 : ¬ (t112 = (decide (a0 ≤ 7))) := by simpa using c10))
        clear c10
        obtain rfl := Option.some.inj H
        go_enter Try.func3, Try.ntmps3
        go_wp2_with (first | ((with_reducible refine gate_callee (f := 13) rfl ?_); refine goesL_ (some 10) rfl rfl Try.func13 (by kernel_rfl) rfl #[.int .i64 a0] rfl (by (try simp only [List.map_toArray, List.map_cons, List.map_nil]); first | done | rfl | (simp only [List.length_drop, List.length_take]; rfl)) ?_; (with_reducible refine (avermentref08_Bits.calls a0 t109 _ A4.out).mono ?_); rintro e w' ⟨rfl, ⟨nd, rfl⟩⟩; refine ⟨_, rfl, ?_⟩) | ((with_reducible refine gate_callee (f := 13) rfl ?_); refine goesL_ (some 12) rfl rfl Try.func13 (by kernel_rfl) rfl #[.int .i64 a1] rfl (by (try simp only [List.map_toArray, List.map_cons, List.map_nil]); first | done | rfl | (simp only [List.length_drop, List.length_take]; rfl)) ?_; (with_reducible refine (avermentref08_Bits.calls a1 t110 _ A5.out).mono ?_); rintro e w' ⟨rfl, ⟨nd, rfl⟩⟩; refine ⟨_, rfl, ?_⟩) | ((with_reducible refine gate_callee (f := 14) rfl ?_); refine goesL_ (some 13) rfl rfl Try.func14 (by kernel_rfl) rfl #[] rfl (by (try simp only [List.map_toArray, List.map_cons, List.map_nil]); first | done | rfl | (simp only [List.length_drop, List.length_take]; rfl)) ?_; (with_reducible refine (avermentlaw08_told.calls  true _ A6.out).mono ?_); rintro e w27 ⟨rfl, hb⟩; refine ⟨_, rfl, ?_⟩; have n0_ := Aside0.mk (below_step (by repeat (first | (with_reducible first | exact HB.out | apply below_alloc | apply pw_below_drewN | apply below_drew1) | exact HB.out)) hb); clear HB; have HB := n0_; clear n0_; (try clear hb); (try clear hb2); (try clear hk); (try clear hi)) | (go_at_call 15; (with_reducible refine (sign_Right.calls a0 t112 _ A8.out).mono ?_); rintro e w' ⟨rfl, ⟨nd, rfl⟩⟩))
        go_ret
        exact ⟨by first | rfl | (simp [errW_none, errW_some] <;> rfl) | (simp [*, errW_none, errW_some] <;> rfl), by repeat (first | (with_reducible first | exact HB.out | apply below_alloc | apply pw_below_drewN | apply below_drew1) | exact HB.out)⟩
    · rw [if_neg c9] at H
      have c9b0 : decide (1 ≤ a0) = false := decide_eq_false c9
      clear c9
      by_cases c28 : (t112 == false) = true
      · rw [if_pos c28] at H
        have c28b0 : (t112 == false) = true := c28
        (try (have c28b1 : decide (t112 = false) = true := by simpa using c28))
        (try (have c28b2 : (t112 == false) = true := by simpa using c28))
        clear c28
        replace H := Option.bind_eq_some_iff.mp H
        obtain ⟨t120, A290, H⟩ := H
        replace H : ((avermentref08_Of.f a2).bind fun t121 => (if t120 = t121 then ((sign_Has.f a0 a2).bind fun t122 => ((avermentref08_Has.f t109 a2).bind fun t123 => (if (t122 == t123) = true then ((sign_Join.f a0 a1).bind fun t124 => (if t124 = (Go.bits .or .i64 t109 t110) then ((sign_Meet.f a0 a1).bind fun t125 => (if t125 = (Go.bits .and .i64 t109 t110) then ((sign_Within.f a0 a1).bind fun t126 => (some (t126 == ((Go.bits .or .i64 t109 t110) == t110)))) else (some false))) else (some false))) else (some false)))) else (some false))) = some r := H
        have A29 := Aside0.mk A290
        clear A290
        replace H := Option.bind_eq_some_iff.mp H
        obtain ⟨t121, A300, H⟩ := H
        replace H : (if t120 = t121 then ((sign_Has.f a0 a2).bind fun t122 => ((avermentref08_Has.f t109 a2).bind fun t123 => (if (t122 == t123) = true then ((sign_Join.f a0 a1).bind fun t124 => (if t124 = (Go.bits .or .i64 t109 t110) then ((sign_Meet.f a0 a1).bind fun t125 => (if t125 = (Go.bits .and .i64 t109 t110) then ((sign_Within.f a0 a1).bind fun t126 => (some (t126 == ((Go.bits .or .i64 t109 t110) == t110)))) else (some false))) else (some false))) else (some false)))) else (some false)) = some r := H
        have A30 := Aside0.mk A300
        clear A300
        by_cases c31 : t120 = t121
        · rw [if_pos c31] at H
          have c31b0 : (t120 == t121) = true := beq_iff_eq.mpr c31
          have c31b1 : (t120 != t121) = false := bne_eq_false_iff_eq.mpr c31
          clear c31
          replace H := Option.bind_eq_some_iff.mp H
          obtain ⟨t122, A320, H⟩ := H
          replace H : ((avermentref08_Has.f t109 a2).bind fun t123 => (if (t122 == t123) = true then ((sign_Join.f a0 a1).bind fun t124 => (if t124 = (Go.bits .or .i64 t109 t110) then ((sign_Meet.f a0 a1).bind fun t125 => (if t125 = (Go.bits .and .i64 t109 t110) then ((sign_Within.f a0 a1).bind fun t126 => (some (t126 == ((Go.bits .or .i64 t109 t110) == t110)))) else (some false))) else (some false))) else (some false))) = some r := H
          have A32 := Aside0.mk A320
          clear A320
          replace H := Option.bind_eq_some_iff.mp H
          obtain ⟨t123, A330, H⟩ := H
          replace H : (if (t122 == t123) = true then ((sign_Join.f a0 a1).bind fun t124 => (if t124 = (Go.bits .or .i64 t109 t110) then ((sign_Meet.f a0 a1).bind fun t125 => (if t125 = (Go.bits .and .i64 t109 t110) then ((sign_Within.f a0 a1).bind fun t126 => (some (t126 == ((Go.bits .or .i64 t109 t110) == t110)))) else (some false))) else (some false))) else (some false)) = some r := H
          have A33 := Aside0.mk A330
          clear A330
          by_cases c34 : (t122 == t123) = true
          · rw [if_pos c34] at H
            have c34b0 : (t122 == t123) = true := c34
            (try (have c34b1 : decide (t122 = t123) = true := by simpa using c34))
            (try (have c34b2 : (t122 == t123) = true := by simpa using c34))
            clear c34
            replace H := Option.bind_eq_some_iff.mp H
            obtain ⟨t124, A350, H⟩ := H
            replace H : (if t124 = (Go.bits .or .i64 t109 t110) then ((sign_Meet.f a0 a1).bind fun t125 => (if t125 = (Go.bits .and .i64 t109 t110) then ((sign_Within.f a0 a1).bind fun t126 => (some (t126 == ((Go.bits .or .i64 t109 t110) == t110)))) else (some false))) else (some false)) = some r := H
            have A35 := Aside0.mk A350
            clear A350
            by_cases c36 : t124 = (Go.bits .or .i64 t109 t110)
            · rw [if_pos c36] at H
              have c36b0 : (t124 == (Go.bits .or .i64 t109 t110)) = true := beq_iff_eq.mpr c36
              have c36b1 : (t124 != (Go.bits .or .i64 t109 t110)) = false := bne_eq_false_iff_eq.mpr c36
              clear c36
              replace H := Option.bind_eq_some_iff.mp H
              obtain ⟨t125, A370, H⟩ := H
              replace H : (if t125 = (Go.bits .and .i64 t109 t110) then ((sign_Within.f a0 a1).bind fun t126 => (some (t126 == ((Go.bits .or .i64 t109 t110) == t110)))) else (some false)) = some r := H
              have A37 := Aside0.mk A370
              clear A370
              by_cases c38 : t125 = (Go.bits .and .i64 t109 t110)
              · rw [if_pos c38] at H
                have c38b0 : (t125 == (Go.bits .and .i64 t109 t110)) = true := beq_iff_eq.mpr c38
                have c38b1 : (t125 != (Go.bits .and .i64 t109 t110)) = false := bne_eq_false_iff_eq.mpr c38
                clear c38
                replace H := Option.bind_eq_some_iff.mp H
                obtain ⟨t126, A390, H⟩ := H
                replace H : (some (t126 == ((Go.bits .or .i64 t109 t110) == t110))) = some r := H
                have A39 := Aside0.mk A390
                clear A390
                obtain rfl := Option.some.inj H
                go_enter Try.func3, Try.ntmps3
                go_wp2_with (first | ((with_reducible refine gate_callee (f := 13) rfl ?_); refine goesL_ (some 10) rfl rfl Try.func13 (by kernel_rfl) rfl #[.int .i64 a0] rfl (by (try simp only [List.map_toArray, List.map_cons, List.map_nil]); first | done | rfl | (simp only [List.length_drop, List.length_take]; rfl)) ?_; (with_reducible refine (avermentref08_Bits.calls a0 t109 _ A4.out).mono ?_); rintro e w' ⟨rfl, ⟨nd, rfl⟩⟩; refine ⟨_, rfl, ?_⟩) | ((with_reducible refine gate_callee (f := 13) rfl ?_); refine goesL_ (some 12) rfl rfl Try.func13 (by kernel_rfl) rfl #[.int .i64 a1] rfl (by (try simp only [List.map_toArray, List.map_cons, List.map_nil]); first | done | rfl | (simp only [List.length_drop, List.length_take]; rfl)) ?_; (with_reducible refine (avermentref08_Bits.calls a1 t110 _ A5.out).mono ?_); rintro e w' ⟨rfl, ⟨nd, rfl⟩⟩; refine ⟨_, rfl, ?_⟩) | ((with_reducible refine gate_callee (f := 14) rfl ?_); refine goesL_ (some 13) rfl rfl Try.func14 (by kernel_rfl) rfl #[] rfl (by (try simp only [List.map_toArray, List.map_cons, List.map_nil]); first | done | rfl | (simp only [List.length_drop, List.length_take]; rfl)) ?_; (with_reducible refine (avermentlaw08_told.calls  true _ A6.out).mono ?_); rintro e w40 ⟨rfl, hb⟩; refine ⟨_, rfl, ?_⟩; have n0_ := Aside0.mk (below_step (by repeat (first | (with_reducible first | exact HB.out | apply below_alloc | apply pw_below_drewN | apply below_drew1) | exact HB.out)) hb); clear HB; have HB := n0_; clear n0_; (try clear hb); (try clear hb2); (try clear hk); (try clear hi)) | (go_at_call 15; (with_reducible refine (sign_Right.calls a0 t112 _ A8.out).mono ?_); rintro e w' ⟨rfl, ⟨nd, rfl⟩⟩) | (go_at_call 16; (with_reducible refine (sign_Of.calls a2 t120 _ A29.out).mono ?_); rintro e w' ⟨rfl, ⟨nd, rfl⟩⟩) | (go_at_call 17; (with_reducible refine (avermentref08_Of.calls a2 t121 _ A30.out).mono ?_); rintro e w' ⟨rfl, ⟨nd, rfl⟩⟩) | (go_at_call 18; (with_reducible refine (sign_Has.calls a0 a2 t122 _ A32.out).mono ?_); rintro e w' ⟨rfl, ⟨nd, rfl⟩⟩) | (go_at_call 19; (with_reducible refine (avermentref08_Has.calls t109 a2 t123 _ A33.out).mono ?_); rintro e w' ⟨rfl, ⟨nd, rfl⟩⟩) | (go_at_call 20; (with_reducible refine (sign_Join.calls a0 a1 t124 _ A35.out).mono ?_); rintro e w' ⟨rfl, ⟨nd, rfl⟩⟩) | (go_at_call 21; (with_reducible refine (sign_Meet.calls a0 a1 t125 _ A37.out).mono ?_); rintro e w' ⟨rfl, ⟨nd, rfl⟩⟩) | (go_at_call 22; (with_reducible refine (sign_Within.calls a0 a1 t126 _ A39.out).mono ?_); rintro e w' ⟨rfl, ⟨nd, rfl⟩⟩))
                go_ret
                exact ⟨by first | rfl | (simp [errW_none, errW_some] <;> rfl) | (simp [*, errW_none, errW_some] <;> rfl), by repeat (first | (with_reducible first | exact HB.out | apply below_alloc | apply pw_below_drewN | apply below_drew1) | exact HB.out)⟩
              · rw [if_neg c38] at H
                have c38b0 : (t125 == (Go.bits .and .i64 t109 t110)) = false := beq_eq_false_iff_ne.mpr c38
                have c38b1 : (t125 != (Go.bits .and .i64 t109 t110)) = true := bne_iff_ne.mpr c38
                obtain rfl := Option.some.inj H
                go_enter Try.func3, Try.ntmps3
                go_wp2_with (first | ((with_reducible refine gate_callee (f := 13) rfl ?_); refine goesL_ (some 10) rfl rfl Try.func13 (by kernel_rfl) rfl #[.int .i64 a0] rfl (by (try simp only [List.map_toArray, List.map_cons, List.map_nil]); first | done | rfl | (simp only [List.length_drop, List.length_take]; rfl)) ?_; (with_reducible refine (avermentref08_Bits.calls a0 t109 _ A4.out).mono ?_); rintro e w' ⟨rfl, ⟨nd, rfl⟩⟩; refine ⟨_, rfl, ?_⟩) | ((with_reducible refine gate_callee (f := 13) rfl ?_); refine goesL_ (some 12) rfl rfl Try.func13 (by kernel_rfl) rfl #[.int .i64 a1] rfl (by (try simp only [List.map_toArray, List.map_cons, List.map_nil]); first | done | rfl | (simp only [List.length_drop, List.length_take]; rfl)) ?_; (with_reducible refine (avermentref08_Bits.calls a1 t110 _ A5.out).mono ?_); rintro e w' ⟨rfl, ⟨nd, rfl⟩⟩; refine ⟨_, rfl, ?_⟩) | ((with_reducible refine gate_callee (f := 14) rfl ?_); refine goesL_ (some 13) rfl rfl Try.func14 (by kernel_rfl) rfl #[] rfl (by (try simp only [List.map_toArray, List.map_cons, List.map_nil]); first | done | rfl | (simp only [List.length_drop, List.length_take]; rfl)) ?_; (with_reducible refine (avermentlaw08_told.calls  true _ A6.out).mono ?_); rintro e w41 ⟨rfl, hb⟩; refine ⟨_, rfl, ?_⟩; have n0_ := Aside0.mk (below_step (by repeat (first | (with_reducible first | exact HB.out | apply below_alloc | apply pw_below_drewN | apply below_drew1) | exact HB.out)) hb); clear HB; have HB := n0_; clear n0_; (try clear hb); (try clear hb2); (try clear hk); (try clear hi)) | (go_at_call 15; (with_reducible refine (sign_Right.calls a0 t112 _ A8.out).mono ?_); rintro e w' ⟨rfl, ⟨nd, rfl⟩⟩) | (go_at_call 16; (with_reducible refine (sign_Of.calls a2 t120 _ A29.out).mono ?_); rintro e w' ⟨rfl, ⟨nd, rfl⟩⟩) | (go_at_call 17; (with_reducible refine (avermentref08_Of.calls a2 t121 _ A30.out).mono ?_); rintro e w' ⟨rfl, ⟨nd, rfl⟩⟩) | (go_at_call 18; (with_reducible refine (sign_Has.calls a0 a2 t122 _ A32.out).mono ?_); rintro e w' ⟨rfl, ⟨nd, rfl⟩⟩) | (go_at_call 19; (with_reducible refine (avermentref08_Has.calls t109 a2 t123 _ A33.out).mono ?_); rintro e w' ⟨rfl, ⟨nd, rfl⟩⟩) | (go_at_call 20; (with_reducible refine (sign_Join.calls a0 a1 t124 _ A35.out).mono ?_); rintro e w' ⟨rfl, ⟨nd, rfl⟩⟩) | (go_at_call 21; (with_reducible refine (sign_Meet.calls a0 a1 t125 _ A37.out).mono ?_); rintro e w' ⟨rfl, ⟨nd, rfl⟩⟩))
                go_ret
                exact ⟨by first | rfl | (simp [errW_none, errW_some] <;> rfl) | (simp [*, errW_none, errW_some] <;> rfl), by repeat (first | (with_reducible first | exact HB.out | apply below_alloc | apply pw_below_drewN | apply below_drew1) | exact HB.out)⟩
            · rw [if_neg c36] at H
              have c36b0 : (t124 == (Go.bits .or .i64 t109 t110)) = false := beq_eq_false_iff_ne.mpr c36
              have c36b1 : (t124 != (Go.bits .or .i64 t109 t110)) = true := bne_iff_ne.mpr c36
              obtain rfl := Option.some.inj H
              go_enter Try.func3, Try.ntmps3
              go_wp2_with (first | ((with_reducible refine gate_callee (f := 13) rfl ?_); refine goesL_ (some 10) rfl rfl Try.func13 (by kernel_rfl) rfl #[.int .i64 a0] rfl (by (try simp only [List.map_toArray, List.map_cons, List.map_nil]); first | done | rfl | (simp only [List.length_drop, List.length_take]; rfl)) ?_; (with_reducible refine (avermentref08_Bits.calls a0 t109 _ A4.out).mono ?_); rintro e w' ⟨rfl, ⟨nd, rfl⟩⟩; refine ⟨_, rfl, ?_⟩) | ((with_reducible refine gate_callee (f := 13) rfl ?_); refine goesL_ (some 12) rfl rfl Try.func13 (by kernel_rfl) rfl #[.int .i64 a1] rfl (by (try simp only [List.map_toArray, List.map_cons, List.map_nil]); first | done | rfl | (simp only [List.length_drop, List.length_take]; rfl)) ?_; (with_reducible refine (avermentref08_Bits.calls a1 t110 _ A5.out).mono ?_); rintro e w' ⟨rfl, ⟨nd, rfl⟩⟩; refine ⟨_, rfl, ?_⟩) | ((with_reducible refine gate_callee (f := 14) rfl ?_); refine goesL_ (some 13) rfl rfl Try.func14 (by kernel_rfl) rfl #[] rfl (by (try simp only [List.map_toArray, List.map_cons, List.map_nil]); first | done | rfl | (simp only [List.length_drop, List.length_take]; rfl)) ?_; (with_reducible refine (avermentlaw08_told.calls  true _ A6.out).mono ?_); rintro e w42 ⟨rfl, hb⟩; refine ⟨_, rfl, ?_⟩; have n0_ := Aside0.mk (below_step (by repeat (first | (with_reducible first | exact HB.out | apply below_alloc | apply pw_below_drewN | apply below_drew1) | exact HB.out)) hb); clear HB; have HB := n0_; clear n0_; (try clear hb); (try clear hb2); (try clear hk); (try clear hi)) | (go_at_call 15; (with_reducible refine (sign_Right.calls a0 t112 _ A8.out).mono ?_); rintro e w' ⟨rfl, ⟨nd, rfl⟩⟩) | (go_at_call 16; (with_reducible refine (sign_Of.calls a2 t120 _ A29.out).mono ?_); rintro e w' ⟨rfl, ⟨nd, rfl⟩⟩) | (go_at_call 17; (with_reducible refine (avermentref08_Of.calls a2 t121 _ A30.out).mono ?_); rintro e w' ⟨rfl, ⟨nd, rfl⟩⟩) | (go_at_call 18; (with_reducible refine (sign_Has.calls a0 a2 t122 _ A32.out).mono ?_); rintro e w' ⟨rfl, ⟨nd, rfl⟩⟩) | (go_at_call 19; (with_reducible refine (avermentref08_Has.calls t109 a2 t123 _ A33.out).mono ?_); rintro e w' ⟨rfl, ⟨nd, rfl⟩⟩) | (go_at_call 20; (with_reducible refine (sign_Join.calls a0 a1 t124 _ A35.out).mono ?_); rintro e w' ⟨rfl, ⟨nd, rfl⟩⟩))
              go_ret
              exact ⟨by first | rfl | (simp [errW_none, errW_some] <;> rfl) | (simp [*, errW_none, errW_some] <;> rfl), by repeat (first | (with_reducible first | exact HB.out | apply below_alloc | apply pw_below_drewN | apply below_drew1) | exact HB.out)⟩
          · rw [if_neg c34] at H
            have c34b0 : (t122 == t123) = false := by simpa using c34
            (try (have c34b1 : decide (t122 = t123) = false := by simpa using c34))
            (try (have c34b2 : (t122 == t123) = false := by simpa using c34))
            (try (have c34b3 : ¬ (t122 = t123) := by simpa using c34))
            clear c34
            obtain rfl := Option.some.inj H
            go_enter Try.func3, Try.ntmps3
            go_wp2_with (first | ((with_reducible refine gate_callee (f := 13) rfl ?_); refine goesL_ (some 10) rfl rfl Try.func13 (by kernel_rfl) rfl #[.int .i64 a0] rfl (by (try simp only [List.map_toArray, List.map_cons, List.map_nil]); first | done | rfl | (simp only [List.length_drop, List.length_take]; rfl)) ?_; (with_reducible refine (avermentref08_Bits.calls a0 t109 _ A4.out).mono ?_); rintro e w' ⟨rfl, ⟨nd, rfl⟩⟩; refine ⟨_, rfl, ?_⟩) | ((with_reducible refine gate_callee (f := 13) rfl ?_); refine goesL_ (some 12) rfl rfl Try.func13 (by kernel_rfl) rfl #[.int .i64 a1] rfl (by (try simp only [List.map_toArray, List.map_cons, List.map_nil]); first | done | rfl | (simp only [List.length_drop, List.length_take]; rfl)) ?_; (with_reducible refine (avermentref08_Bits.calls a1 t110 _ A5.out).mono ?_); rintro e w' ⟨rfl, ⟨nd, rfl⟩⟩; refine ⟨_, rfl, ?_⟩) | ((with_reducible refine gate_callee (f := 14) rfl ?_); refine goesL_ (some 13) rfl rfl Try.func14 (by kernel_rfl) rfl #[] rfl (by (try simp only [List.map_toArray, List.map_cons, List.map_nil]); first | done | rfl | (simp only [List.length_drop, List.length_take]; rfl)) ?_; (with_reducible refine (avermentlaw08_told.calls  true _ A6.out).mono ?_); rintro e w43 ⟨rfl, hb⟩; refine ⟨_, rfl, ?_⟩; have n0_ := Aside0.mk (below_step (by repeat (first | (with_reducible first | exact HB.out | apply below_alloc | apply pw_below_drewN | apply below_drew1) | exact HB.out)) hb); clear HB; have HB := n0_; clear n0_; (try clear hb); (try clear hb2); (try clear hk); (try clear hi)) | (go_at_call 15; (with_reducible refine (sign_Right.calls a0 t112 _ A8.out).mono ?_); rintro e w' ⟨rfl, ⟨nd, rfl⟩⟩) | (go_at_call 16; (with_reducible refine (sign_Of.calls a2 t120 _ A29.out).mono ?_); rintro e w' ⟨rfl, ⟨nd, rfl⟩⟩) | (go_at_call 17; (with_reducible refine (avermentref08_Of.calls a2 t121 _ A30.out).mono ?_); rintro e w' ⟨rfl, ⟨nd, rfl⟩⟩) | (go_at_call 18; (with_reducible refine (sign_Has.calls a0 a2 t122 _ A32.out).mono ?_); rintro e w' ⟨rfl, ⟨nd, rfl⟩⟩) | (go_at_call 19; (with_reducible refine (avermentref08_Has.calls t109 a2 t123 _ A33.out).mono ?_); rintro e w' ⟨rfl, ⟨nd, rfl⟩⟩))
            go_ret
            exact ⟨by first | rfl | (simp [errW_none, errW_some] <;> rfl) | (simp [*, errW_none, errW_some] <;> rfl), by repeat (first | (with_reducible first | exact HB.out | apply below_alloc | apply pw_below_drewN | apply below_drew1) | exact HB.out)⟩
        · rw [if_neg c31] at H
          have c31b0 : (t120 == t121) = false := beq_eq_false_iff_ne.mpr c31
          have c31b1 : (t120 != t121) = true := bne_iff_ne.mpr c31
          obtain rfl := Option.some.inj H
          go_enter Try.func3, Try.ntmps3
          go_wp2_with (first | ((with_reducible refine gate_callee (f := 13) rfl ?_); refine goesL_ (some 10) rfl rfl Try.func13 (by kernel_rfl) rfl #[.int .i64 a0] rfl (by (try simp only [List.map_toArray, List.map_cons, List.map_nil]); first | done | rfl | (simp only [List.length_drop, List.length_take]; rfl)) ?_; (with_reducible refine (avermentref08_Bits.calls a0 t109 _ A4.out).mono ?_); rintro e w' ⟨rfl, ⟨nd, rfl⟩⟩; refine ⟨_, rfl, ?_⟩) | ((with_reducible refine gate_callee (f := 13) rfl ?_); refine goesL_ (some 12) rfl rfl Try.func13 (by kernel_rfl) rfl #[.int .i64 a1] rfl (by (try simp only [List.map_toArray, List.map_cons, List.map_nil]); first | done | rfl | (simp only [List.length_drop, List.length_take]; rfl)) ?_; (with_reducible refine (avermentref08_Bits.calls a1 t110 _ A5.out).mono ?_); rintro e w' ⟨rfl, ⟨nd, rfl⟩⟩; refine ⟨_, rfl, ?_⟩) | ((with_reducible refine gate_callee (f := 14) rfl ?_); refine goesL_ (some 13) rfl rfl Try.func14 (by kernel_rfl) rfl #[] rfl (by (try simp only [List.map_toArray, List.map_cons, List.map_nil]); first | done | rfl | (simp only [List.length_drop, List.length_take]; rfl)) ?_; (with_reducible refine (avermentlaw08_told.calls  true _ A6.out).mono ?_); rintro e w44 ⟨rfl, hb⟩; refine ⟨_, rfl, ?_⟩; have n0_ := Aside0.mk (below_step (by repeat (first | (with_reducible first | exact HB.out | apply below_alloc | apply pw_below_drewN | apply below_drew1) | exact HB.out)) hb); clear HB; have HB := n0_; clear n0_; (try clear hb); (try clear hb2); (try clear hk); (try clear hi)) | (go_at_call 15; (with_reducible refine (sign_Right.calls a0 t112 _ A8.out).mono ?_); rintro e w' ⟨rfl, ⟨nd, rfl⟩⟩) | (go_at_call 16; (with_reducible refine (sign_Of.calls a2 t120 _ A29.out).mono ?_); rintro e w' ⟨rfl, ⟨nd, rfl⟩⟩) | (go_at_call 17; (with_reducible refine (avermentref08_Of.calls a2 t121 _ A30.out).mono ?_); rintro e w' ⟨rfl, ⟨nd, rfl⟩⟩))
          go_ret
          exact ⟨by first | rfl | (simp [errW_none, errW_some] <;> rfl) | (simp [*, errW_none, errW_some] <;> rfl), by repeat (first | (with_reducible first | exact HB.out | apply below_alloc | apply pw_below_drewN | apply below_drew1) | exact HB.out)⟩
      · rw [if_neg c28] at H
        have c28b0 : (t112 == false) = false := by simpa using c28
        (try (have c28b1 : decide (t112 = false) = false := by simpa using c28))
        (try (have c28b2 : (t112 == false) = false := by simpa using c28))
        (try (have c28b3 : ¬ (t112 = false) := by simpa using c28))
        clear c28
        obtain rfl := Option.some.inj H
        go_enter Try.func3, Try.ntmps3
        go_wp2_with (first | ((with_reducible refine gate_callee (f := 13) rfl ?_); refine goesL_ (some 10) rfl rfl Try.func13 (by kernel_rfl) rfl #[.int .i64 a0] rfl (by (try simp only [List.map_toArray, List.map_cons, List.map_nil]); first | done | rfl | (simp only [List.length_drop, List.length_take]; rfl)) ?_; (with_reducible refine (avermentref08_Bits.calls a0 t109 _ A4.out).mono ?_); rintro e w' ⟨rfl, ⟨nd, rfl⟩⟩; refine ⟨_, rfl, ?_⟩) | ((with_reducible refine gate_callee (f := 13) rfl ?_); refine goesL_ (some 12) rfl rfl Try.func13 (by kernel_rfl) rfl #[.int .i64 a1] rfl (by (try simp only [List.map_toArray, List.map_cons, List.map_nil]); first | done | rfl | (simp only [List.length_drop, List.length_take]; rfl)) ?_; (with_reducible refine (avermentref08_Bits.calls a1 t110 _ A5.out).mono ?_); rintro e w' ⟨rfl, ⟨nd, rfl⟩⟩; refine ⟨_, rfl, ?_⟩) | ((with_reducible refine gate_callee (f := 14) rfl ?_); refine goesL_ (some 13) rfl rfl Try.func14 (by kernel_rfl) rfl #[] rfl (by (try simp only [List.map_toArray, List.map_cons, List.map_nil]); first | done | rfl | (simp only [List.length_drop, List.length_take]; rfl)) ?_; (with_reducible refine (avermentlaw08_told.calls  true _ A6.out).mono ?_); rintro e w45 ⟨rfl, hb⟩; refine ⟨_, rfl, ?_⟩; have n0_ := Aside0.mk (below_step (by repeat (first | (with_reducible first | exact HB.out | apply below_alloc | apply pw_below_drewN | apply below_drew1) | exact HB.out)) hb); clear HB; have HB := n0_; clear n0_; (try clear hb); (try clear hb2); (try clear hk); (try clear hi)) | (go_at_call 15; (with_reducible refine (sign_Right.calls a0 t112 _ A8.out).mono ?_); rintro e w' ⟨rfl, ⟨nd, rfl⟩⟩))
        go_ret
        exact ⟨by first | rfl | (simp [errW_none, errW_some] <;> rfl) | (simp [*, errW_none, errW_some] <;> rfl), by repeat (first | (with_reducible first | exact HB.out | apply below_alloc | apply pw_below_drewN | apply below_drew1) | exact HB.out)⟩
  · replace c7 := Bool.eq_false_iff.mpr c7
    subst c7
    have H1 : (some false) = some r := by rw [if_neg (show ¬ (false = true) by decide)] at H; exact H
    clear H
    have H := H1
    clear H1
    obtain rfl := Option.some.inj H
    go_enter Try.func3, Try.ntmps3
    go_wp2_with (first | ((with_reducible refine gate_callee (f := 13) rfl ?_); refine goesL_ (some 10) rfl rfl Try.func13 (by kernel_rfl) rfl #[.int .i64 a0] rfl (by (try simp only [List.map_toArray, List.map_cons, List.map_nil]); first | done | rfl | (simp only [List.length_drop, List.length_take]; rfl)) ?_; (with_reducible refine (avermentref08_Bits.calls a0 t109 _ A4.out).mono ?_); rintro e w' ⟨rfl, ⟨nd, rfl⟩⟩; refine ⟨_, rfl, ?_⟩) | ((with_reducible refine gate_callee (f := 13) rfl ?_); refine goesL_ (some 12) rfl rfl Try.func13 (by kernel_rfl) rfl #[.int .i64 a1] rfl (by (try simp only [List.map_toArray, List.map_cons, List.map_nil]); first | done | rfl | (simp only [List.length_drop, List.length_take]; rfl)) ?_; (with_reducible refine (avermentref08_Bits.calls a1 t110 _ A5.out).mono ?_); rintro e w' ⟨rfl, ⟨nd, rfl⟩⟩; refine ⟨_, rfl, ?_⟩) | ((with_reducible refine gate_callee (f := 14) rfl ?_); refine goesL_ (some 13) rfl rfl Try.func14 (by kernel_rfl) rfl #[] rfl (by (try simp only [List.map_toArray, List.map_cons, List.map_nil]); first | done | rfl | (simp only [List.length_drop, List.length_take]; rfl)) ?_; (with_reducible refine (avermentlaw08_told.calls  false _ A6.out).mono ?_); rintro e w46 ⟨rfl, hb⟩; refine ⟨_, rfl, ?_⟩; have n0_ := Aside0.mk (below_step (by repeat (first | (with_reducible first | exact HB.out | apply below_alloc | apply pw_below_drewN | apply below_drew1) | exact HB.out)) hb); clear HB; have HB := n0_; clear n0_; (try clear hb); (try clear hb2); (try clear hk); (try clear hi)))
    go_ret
    exact ⟨by first | rfl | (simp [errW_none, errW_some] <;> rfl) | (simp [*, errW_none, errW_some] <;> rfl), by repeat (first | (with_reducible first | exact HB.out | apply below_alloc | apply pw_below_drewN | apply below_drew1) | exact HB.out)⟩

/-- THE ONE PURE STATEMENT of avermentlaw08_SignSets: yours. -/
def avermentlaw08_SignSets.Pure : Prop := ∀ (a0 : Int) (a1 : Int) (a2 : Int), (Lit.int .i64 a0).wf = true → (Lit.int .i64 a1).wf = true → (Lit.int .i64 a2).wf = true → avermentlaw08_SignSets.f a0 a1 a2 = some true
theorem avermentlaw08_SignSets.walk (P : avermentlaw08_SignSets.Pure) (a0 : Int) (a1 : Int) (a2 : Int) (w : World) (w0 : (Lit.int .i64 a0).wf = true) (w1 : (Lit.int .i64 a1).wf = true) (w2 : (Lit.int .i64 a2).wf = true) :
    Calls Try.prog 3 #[.int .i64 a0, .int .i64 a1, .int .i64 a2] w fun e w' => e = .returned (.bool true) ∧ Below w.heap.size w w' := by
  have h := P a0 a1 a2 w0 w1 w2
  refine (avermentlaw08_SignSets.calls a0 a1 a2 true w h).mono ?_
  rintro e w' ⟨rfl, hd⟩
  exact ⟨rfl, hd⟩

/-! ### parity_Right: function 24 -/
def parity_Right.f (a0 : Int) : Option (Bool) := if a0 ≥ 1 then (some (decide (a0 ≤ 3))) else (some false)
set_option maxHeartbeats 8000000 in
set_option maxRecDepth 100000 in
theorem parity_Right.calls (a0 : Int) (r : Bool) (w : World) (h : parity_Right.f a0 = some r) :
    Calls Try.prog 24 #[.int .i64 a0] w fun e w' => e = .returned (.bool r) ∧ Drawn0 w w' := by
  have H : (if a0 ≥ 1 then (some (decide (a0 ≤ 3))) else (some false)) = some r := h
  clear h
  by_cases c2 : a0 ≥ 1
  · rw [if_pos c2] at H
    have c2b0 : decide (1 ≤ a0) = true := decide_eq_true c2
    clear c2
    obtain rfl := Option.some.inj H
    go_enter Try.func24, Try.ntmps24
    go_wp2
    go_ret
    exact ⟨by first | rfl | (simp; done) | (simp [*]; done), by repeat (first | exact Drawn0.refl _ | apply Drawn0.step)⟩
  · rw [if_neg c2] at H
    have c2b0 : decide (1 ≤ a0) = false := decide_eq_false c2
    clear c2
    obtain rfl := Option.some.inj H
    go_enter Try.func24, Try.ntmps24
    go_wp2
    go_ret
    exact ⟨by first | rfl | (simp; done) | (simp [*]; done), by repeat (first | exact Drawn0.refl _ | apply Drawn0.step)⟩

/-! ### parity_Of: function 25 -/
def parity_Of.f (a0 : Int) : Option (Int) := if 0 ≤ (Go.bits .and .i64 a0 1) then (some (shl .i64 1 (Go.bits .and .i64 a0 1))) else (none)
set_option maxHeartbeats 8000000 in
set_option maxRecDepth 100000 in
theorem parity_Of.calls (a0 : Int) (r : Int) (w : World) (h : parity_Of.f a0 = some r) :
    Calls Try.prog 25 #[.int .i64 a0] w fun e w' => e = .returned (.int .i64 r) ∧ Drawn0 w w' := by
  have H : (if 0 ≤ (Go.bits .and .i64 a0 1) then (some (shl .i64 1 (Go.bits .and .i64 a0 1))) else (none)) = some r := h
  clear h
  by_cases c2 : 0 ≤ (Go.bits .and .i64 a0 1)
  · rw [if_pos c2] at H
    have c2b0 := eq_true c2
    have c2b1 : decide (0 ≤ (Go.bits .and .i64 a0 1)) = true := decide_eq_true c2
    clear c2
    obtain ⟨ji3, hji3⟩ : ∃ j_ : Int, (shl .i64 1 (Go.bits .and .i64 a0 1)) = j_ := ⟨_, rfl⟩
    replace H : (some ji3) = some r := by first | (rw [hji3] at H; exact H) | (simp only [hji3] at H ⊢; exact H)
    have hji3_ : (IntKind.i64.wrap (1 * 2 ^ min (Go.bits .and .i64 a0 1).toNat 64)) = ji3 := hji3
    have hji3z : (Go.bits .and .i64 a0 1) ≤ 64 → (IntKind.i64.wrap (1 * 2 ^ (Go.bits .and .i64 a0 1).toNat)) = ji3 := shl_small hji3
    have hji3u : (IntKind.i64.wrap (2 ^ min (Go.bits .and .i64 a0 1).toNat 64)) = ji3 := by have h_ := hji3_; rw [Int.one_mul] at h_; exact h_
    have hji3v : (Go.bits .and .i64 a0 1) ≤ 64 → (IntKind.i64.wrap (2 ^ (Go.bits .and .i64 a0 1).toNat)) = ji3 := fun hle_ => by have h_ := hji3z hle_; rw [Int.one_mul] at h_; exact h_
    have hji3y : (wrap64 (1 * 2 ^ min (Go.bits .and .i64 a0 1).toNat 64)) = ji3 := (i64_w _).symm.trans hji3_
    have hji3x : (Go.bits .and .i64 a0 1) ≤ 64 → (wrap64 (1 * 2 ^ (Go.bits .and .i64 a0 1).toNat)) = ji3 := fun h_ => (i64_w _).symm.trans (hji3z h_)
    obtain rfl := Option.some.inj H
    go_enter Try.func25, Try.ntmps25
    go_wp2
    go_ret
    exact ⟨by first | rfl | (simp; done) | (simp only [← hji3] <;> (first | rfl | simp)) | (simp [*]; done), by repeat (first | exact Drawn0.refl _ | apply Drawn0.step)⟩
  · rw [if_neg c2] at H
    exact absurd H (by simp)

/-! ### parity_pair: function 46 -/
mutual
def parity_pair.j0 : Nat → Int → Int → Int → Bool → Option (Int)
  | 0, _, _, _, _ => none
  | k + 1, x1, x2, x7, x8 => if x8 = true then (if x1 = x2 then (some 1) else (some 2)) else (if x7 = 6 then (parity_pair.j1 k x1 x2 x7 (x7 == 6)) else (parity_pair.j1 k x1 x2 x7 (x7 == 9)))
def parity_pair.j1 : Nat → Int → Int → Int → Bool → Option (Int)
  | 0, _, _, _, _ => none
  | k + 1, x1, x2, x7, x15 => if x15 = true then (if x1 = 2 then (if x2 = 2 then (some 2) else (some 1)) else (some 1)) else (if x7 = 8 then (if x2 = 1 then (some x1) else (some 3)) else (if x7 = 12 then (if x1 = x2 then (some 3) else (some 1)) else (if x7 = 7 then (some 3) else (if x7 = 11 then (some 3) else (some 0)))))
end
def parity_pair.f (k : Nat) (a0 : Int) (a1 : Int) (a2 : Int) : Option (Int) := if a0 = 4 then (parity_pair.j0 k a1 a2 a0 (a0 == 4)) else (if a0 = 5 then (parity_pair.j0 k a1 a2 a0 (a0 == 5)) else (parity_pair.j0 k a1 a2 a0 (a0 == 10)))
theorem parity_pair.mono_l : ∀ k, (∀ y0 y1 y2 y3, LeO (parity_pair.j0 k y0 y1 y2 y3) (parity_pair.j0 (k + 1) y0 y1 y2 y3)) ∧ (∀ y0 y1 y2 y3, LeO (parity_pair.j1 k y0 y1 y2 y3) (parity_pair.j1 (k + 1) y0 y1 y2 y3))
  | 0 => ⟨fun _ _ _ _ r h => by simp [parity_pair.j0] at h, fun _ _ _ _ r h => by simp [parity_pair.j1] at h⟩
  | k + 1 => by
    obtain ⟨ih0, ih1⟩ := parity_pair.mono_l k
    refine ⟨?_, ?_⟩
    · intro y0 y1 y2 y3
      unfold parity_pair.j0
      repeat' first
      | (with_reducible exact ih0 _ _ _ _)
      | (with_reducible exact ih1 _ _ _ _)
      | (with_reducible exact LeO.refl _)
      | (with_reducible exact LeO.none _)
      | (with_reducible refine LeO.ite ?_ ?_)
      | (with_reducible refine LeO.bind ?_ (fun _ => ?_))
      | exact ih0 _ _ _ _
      | exact ih1 _ _ _ _
      | exact LeO.none _
      | refine LeO.ite ?_ ?_
      | refine LeO.bind ?_ (fun _ => ?_)
    · intro y0 y1 y2 y3
      unfold parity_pair.j1
      repeat' first
      | (with_reducible exact ih0 _ _ _ _)
      | (with_reducible exact ih1 _ _ _ _)
      | (with_reducible exact LeO.refl _)
      | (with_reducible exact LeO.none _)
      | (with_reducible refine LeO.ite ?_ ?_)
      | (with_reducible refine LeO.bind ?_ (fun _ => ?_))
      | exact ih0 _ _ _ _
      | exact ih1 _ _ _ _
      | exact LeO.none _
      | refine LeO.ite ?_ ?_
      | refine LeO.bind ?_ (fun _ => ?_)
theorem parity_pair.mono : ∀ a0 a1 a2 k, LeO (parity_pair.f k a0 a1 a2) (parity_pair.f (k + 1) a0 a1 a2) := by
  intro a0 a1 a2 k
  obtain ⟨ih0, ih1⟩ := parity_pair.mono_l k
  unfold parity_pair.f
  repeat' first
      | (with_reducible exact ih0 _ _ _ _)
      | (with_reducible exact ih1 _ _ _ _)
      | (with_reducible exact LeO.refl _)
      | (with_reducible exact LeO.none _)
      | (with_reducible refine LeO.ite ?_ ?_)
      | (with_reducible refine LeO.bind ?_ (fun _ => ?_))
      | exact ih0 _ _ _ _
      | exact ih1 _ _ _ _
      | exact LeO.none _
      | refine LeO.ite ?_ ?_
      | refine LeO.bind ?_ (fun _ => ?_)
set_option maxHeartbeats 8000000 in
set_option maxRecDepth 100000 in
theorem parity_pair.calls (k : Nat) (a0 : Int) (a1 : Int) (a2 : Int) (r : Int) (w : World) (h : parity_pair.f k a0 a1 a2 = some r) :
    Calls Try.prog 46 #[.int .i64 a0, .int .i64 a1, .int .i64 a2] w fun e w' => e = .returned (.int .i64 r) ∧ Drawn0 w w' := by
  have H : (if a0 = 4 then (parity_pair.j0 k a1 a2 a0 (a0 == 4)) else (if a0 = 5 then (parity_pair.j0 k a1 a2 a0 (a0 == 5)) else (parity_pair.j0 k a1 a2 a0 (a0 == 10)))) = some r := h
  clear h
  have HC4 := Aside0.mk H
  clear H
  go_enter Try.func46, Try.ntmps46
  go_upto_if 8 with (fail)
  go_cut [8] (fun v8 wc => ∃ (kq : Nat) (x8_3 : Bool), v8 = .bool x8_3 ∧ Aside0 (parity_pair.j0 kq a1 a2 a0 x8_3 = some r) ∧ Aside0 (kq ≤ k) ∧ Drawn0 w wc)
  case first =>
    have H := HC4.out
    clear HC4
    by_cases c5 : a0 = 4
    · rw [if_pos c5] at H
      have c5b0 : (a0 == 4) = true := beq_iff_eq.mpr c5
      have c5b1 : (a0 != 4) = false := bne_eq_false_iff_eq.mpr c5
      clear c5
      (first | rw [c5b0] | (simp only [i64_w, i32_w]; rw [c5b0]) | skip)
      have H' := Aside0.mk H
      clear H
      go_wp2
      go_meet
      case rel => exact ⟨_, ((a0 == 4)), (by first | rfl | (simp; done) | (simp [*]; done)), H', ⟨by first | omega | exact Nat.le_refl _⟩, by repeat (first | exact Drawn0.refl _ | apply Drawn0.step)⟩
    · rw [if_neg c5] at H
      have c5b0 : (a0 == 4) = false := beq_eq_false_iff_ne.mpr c5
      have c5b1 : (a0 != 4) = true := bne_iff_ne.mpr c5
      (first | rw [c5b0] | (simp only [i64_w, i32_w]; rw [c5b0]) | skip)
      by_cases c6 : a0 = 5
      · rw [if_pos c6] at H
        have c6b0 : (a0 == 5) = true := beq_iff_eq.mpr c6
        have c6b1 : (a0 != 5) = false := bne_eq_false_iff_eq.mpr c6
        clear c6
        have H' := Aside0.mk H
        clear H
        go_wp2
        go_meet
        case rel => exact ⟨_, ((a0 == 5)), (by first | rfl | (simp; done) | (simp [*]; done)), H', ⟨by first | omega | exact Nat.le_refl _⟩, by repeat (first | exact Drawn0.refl _ | apply Drawn0.step)⟩
      · rw [if_neg c6] at H
        have c6b0 : (a0 == 5) = false := beq_eq_false_iff_ne.mpr c6
        have c6b1 : (a0 != 5) = true := bne_iff_ne.mpr c6
        have H' := Aside0.mk H
        clear H
        go_wp2
        go_meet
        case rel => exact ⟨_, ((a0 == 10)), (by first | rfl | (simp; done) | (simp [*]; done)), H', ⟨by first | omega | exact Nat.le_refl _⟩, by repeat (first | exact Drawn0.refl _ | apply Drawn0.step)⟩
  case rest =>
    clear HC4
    try clear p2
    try clear c4
    try clear c5
    try clear c5b0
    try clear c5b1
    try clear c6
    try clear c6b0
    try clear c6b1
    obtain ⟨kq, x8_3, rfl, HA, HJ3, ⟨mc3, rfl⟩⟩ := hcut
    cases kq with
    | zero => exact absurd HA.out (by simp [parity_pair.j0])
    | succ kj3 =>
      have H := HA.out
      clear HA
      simp only [parity_pair.j0] at H
      by_cases c7 : x8_3 = true
      · subst c7
        have H1 : (if a1 = a2 then (some 1) else (some 2)) = some r := by rw [if_pos rfl] at H; exact H
        clear H
        have H := H1
        clear H1
        by_cases c8 : a1 = a2
        · rw [if_pos c8] at H
          have c8b0 : (a1 == a2) = true := beq_iff_eq.mpr c8
          have c8b1 : (a1 != a2) = false := bne_eq_false_iff_eq.mpr c8
          clear c8
          obtain rfl := Option.some.inj H
          go_wp2
          go_ret
          exact ⟨by first | rfl | (simp; done) | (simp [*]; done), by repeat (first | exact Drawn0.refl _ | apply Drawn0.step)⟩
        · rw [if_neg c8] at H
          have c8b0 : (a1 == a2) = false := beq_eq_false_iff_ne.mpr c8
          have c8b1 : (a1 != a2) = true := bne_iff_ne.mpr c8
          obtain rfl := Option.some.inj H
          go_wp2
          go_ret
          exact ⟨by first | rfl | (simp; done) | (simp [*]; done), by repeat (first | exact Drawn0.refl _ | apply Drawn0.step)⟩
      · replace c7 := Bool.eq_false_iff.mpr c7
        subst c7
        have H1 : (if a0 = 6 then (parity_pair.j1 kj3 a1 a2 a0 (a0 == 6)) else (parity_pair.j1 kj3 a1 a2 a0 (a0 == 9))) = some r := by rw [if_neg (show ¬ (false = true) by decide)] at H; exact H
        clear H
        have H := H1
        clear H1
        have HC9 := Aside0.mk H
        clear H
        go_upto_if 15 with (fail)
        go_cut [15] (fun v15 wc => ∃ (kq : Nat) (x15_8 : Bool), v15 = .bool x15_8 ∧ Aside0 (parity_pair.j1 kq a1 a2 a0 x15_8 = some r) ∧ Aside0 (kq ≤ kj3) ∧ Drawn0 w wc)
        case first =>
          have H := HC9.out
          clear HC9
          by_cases c10 : a0 = 6
          · rw [if_pos c10] at H
            have c10b0 : (a0 == 6) = true := beq_iff_eq.mpr c10
            have c10b1 : (a0 != 6) = false := bne_eq_false_iff_eq.mpr c10
            clear c10
            (first | rw [c10b0] | (simp only [i64_w, i32_w]; rw [c10b0]) | skip)
            have H' := Aside0.mk H
            clear H
            go_wp2
            go_meet
            case rel => exact ⟨_, ((a0 == 6)), (by first | rfl | (simp; done) | (simp [*]; done)), H', ⟨by have := HJ3.out; first | omega | exact Nat.le_refl _⟩, by repeat (first | exact Drawn0.refl _ | apply Drawn0.step)⟩
          · rw [if_neg c10] at H
            have c10b0 : (a0 == 6) = false := beq_eq_false_iff_ne.mpr c10
            have c10b1 : (a0 != 6) = true := bne_iff_ne.mpr c10
            (first | rw [c10b0] | (simp only [i64_w, i32_w]; rw [c10b0]) | skip)
            have H' := Aside0.mk H
            clear H
            go_wp2
            go_meet
            case rel => exact ⟨_, ((a0 == 9)), (by first | rfl | (simp; done) | (simp [*]; done)), H', ⟨by have := HJ3.out; first | omega | exact Nat.le_refl _⟩, by repeat (first | exact Drawn0.refl _ | apply Drawn0.step)⟩
        case rest =>
          clear HC9
          try clear c1
          try clear p2
          try clear c3
          try clear c4
          try clear c5
          try clear c5b0
          try clear c5b1
          try clear c6
          try clear c6b0
          try clear c6b1
          try clear c7
          try clear c8
          try clear c8b0
          try clear c8b1
          try clear c10
          try clear c10b0
          try clear c10b1
          try clear p2
          obtain ⟨kq, x15_8, rfl, HA, HJ8, ⟨mc8, rfl⟩⟩ := hcut
          cases kq with
          | zero => exact absurd HA.out (by simp [parity_pair.j1])
          | succ kj8 =>
            have H := HA.out
            clear HA
            simp only [parity_pair.j1] at H
            by_cases c11 : x15_8 = true
            · subst c11
              have H1 : (if a1 = 2 then (if a2 = 2 then (some 2) else (some 1)) else (some 1)) = some r := by rw [if_pos rfl] at H; exact H
              clear H
              have H := H1
              clear H1
              by_cases c12 : a1 = 2
              · rw [if_pos c12] at H
                have c12b0 : (a1 == 2) = true := beq_iff_eq.mpr c12
                have c12b1 : (a1 != 2) = false := bne_eq_false_iff_eq.mpr c12
                clear c12
                by_cases c13 : a2 = 2
                · rw [if_pos c13] at H
                  have c13b0 : (a2 == 2) = true := beq_iff_eq.mpr c13
                  have c13b1 : (a2 != 2) = false := bne_eq_false_iff_eq.mpr c13
                  clear c13
                  obtain rfl := Option.some.inj H
                  go_wp2
                  go_ret
                  exact ⟨by first | rfl | (simp; done) | (simp [*]; done), by repeat (first | exact Drawn0.refl _ | apply Drawn0.step)⟩
                · rw [if_neg c13] at H
                  have c13b0 : (a2 == 2) = false := beq_eq_false_iff_ne.mpr c13
                  have c13b1 : (a2 != 2) = true := bne_iff_ne.mpr c13
                  obtain rfl := Option.some.inj H
                  go_wp2
                  go_ret
                  exact ⟨by first | rfl | (simp; done) | (simp [*]; done), by repeat (first | exact Drawn0.refl _ | apply Drawn0.step)⟩
              · rw [if_neg c12] at H
                have c12b0 : (a1 == 2) = false := beq_eq_false_iff_ne.mpr c12
                have c12b1 : (a1 != 2) = true := bne_iff_ne.mpr c12
                obtain rfl := Option.some.inj H
                go_wp2
                go_ret
                exact ⟨by first | rfl | (simp; done) | (simp [*]; done), by repeat (first | exact Drawn0.refl _ | apply Drawn0.step)⟩
            · replace c11 := Bool.eq_false_iff.mpr c11
              subst c11
              have H1 : (if a0 = 8 then (if a2 = 1 then (some a1) else (some 3)) else (if a0 = 12 then (if a1 = a2 then (some 3) else (some 1)) else (if a0 = 7 then (some 3) else (if a0 = 11 then (some 3) else (some 0))))) = some r := by rw [if_neg (show ¬ (false = true) by decide)] at H; exact H
              clear H
              have H := H1
              clear H1
              by_cases c14 : a0 = 8
              · rw [if_pos c14] at H
                have c14b0 : (a0 == 8) = true := beq_iff_eq.mpr c14
                have c14b1 : (a0 != 8) = false := bne_eq_false_iff_eq.mpr c14
                clear c14
                by_cases c15 : a2 = 1
                · rw [if_pos c15] at H
                  have c15b0 : (a2 == 1) = true := beq_iff_eq.mpr c15
                  have c15b1 : (a2 != 1) = false := bne_eq_false_iff_eq.mpr c15
                  clear c15
                  obtain rfl := Option.some.inj H
                  go_wp2
                  go_ret
                  exact ⟨by first | rfl | (simp; done) | (simp [*]; done), by repeat (first | exact Drawn0.refl _ | apply Drawn0.step)⟩
                · rw [if_neg c15] at H
                  have c15b0 : (a2 == 1) = false := beq_eq_false_iff_ne.mpr c15
                  have c15b1 : (a2 != 1) = true := bne_iff_ne.mpr c15
                  obtain rfl := Option.some.inj H
                  go_wp2
                  go_ret
                  exact ⟨by first | rfl | (simp; done) | (simp [*]; done), by repeat (first | exact Drawn0.refl _ | apply Drawn0.step)⟩
              · rw [if_neg c14] at H
                have c14b0 : (a0 == 8) = false := beq_eq_false_iff_ne.mpr c14
                have c14b1 : (a0 != 8) = true := bne_iff_ne.mpr c14
                by_cases c16 : a0 = 12
                · rw [if_pos c16] at H
                  have c16b0 : (a0 == 12) = true := beq_iff_eq.mpr c16
                  have c16b1 : (a0 != 12) = false := bne_eq_false_iff_eq.mpr c16
                  clear c16
                  by_cases c17 : a1 = a2
                  · rw [if_pos c17] at H
                    have c17b0 : (a1 == a2) = true := beq_iff_eq.mpr c17
                    have c17b1 : (a1 != a2) = false := bne_eq_false_iff_eq.mpr c17
                    clear c17
                    obtain rfl := Option.some.inj H
                    go_wp2
                    go_ret
                    exact ⟨by first | rfl | (simp; done) | (simp [*]; done), by repeat (first | exact Drawn0.refl _ | apply Drawn0.step)⟩
                  · rw [if_neg c17] at H
                    have c17b0 : (a1 == a2) = false := beq_eq_false_iff_ne.mpr c17
                    have c17b1 : (a1 != a2) = true := bne_iff_ne.mpr c17
                    obtain rfl := Option.some.inj H
                    go_wp2
                    go_ret
                    exact ⟨by first | rfl | (simp; done) | (simp [*]; done), by repeat (first | exact Drawn0.refl _ | apply Drawn0.step)⟩
                · rw [if_neg c16] at H
                  have c16b0 : (a0 == 12) = false := beq_eq_false_iff_ne.mpr c16
                  have c16b1 : (a0 != 12) = true := bne_iff_ne.mpr c16
                  by_cases c18 : a0 = 7
                  · rw [if_pos c18] at H
                    have c18b0 : (a0 == 7) = true := beq_iff_eq.mpr c18
                    have c18b1 : (a0 != 7) = false := bne_eq_false_iff_eq.mpr c18
                    clear c18
                    obtain rfl := Option.some.inj H
                    go_wp2
                    go_ret
                    exact ⟨by first | rfl | (simp; done) | (simp [*]; done), by repeat (first | exact Drawn0.refl _ | apply Drawn0.step)⟩
                  · rw [if_neg c18] at H
                    have c18b0 : (a0 == 7) = false := beq_eq_false_iff_ne.mpr c18
                    have c18b1 : (a0 != 7) = true := bne_iff_ne.mpr c18
                    by_cases c19 : a0 = 11
                    · rw [if_pos c19] at H
                      have c19b0 : (a0 == 11) = true := beq_iff_eq.mpr c19
                      have c19b1 : (a0 != 11) = false := bne_eq_false_iff_eq.mpr c19
                      clear c19
                      obtain rfl := Option.some.inj H
                      go_wp2
                      go_ret
                      exact ⟨by first | rfl | (simp; done) | (simp [*]; done), by repeat (first | exact Drawn0.refl _ | apply Drawn0.step)⟩
                    · rw [if_neg c19] at H
                      have c19b0 : (a0 == 11) = false := beq_eq_false_iff_ne.mpr c19
                      have c19b1 : (a0 != 11) = true := bne_iff_ne.mpr c19
                      obtain rfl := Option.some.inj H
                      go_wp2
                      go_ret
                      exact ⟨by first | rfl | (simp; done) | (simp [*]; done), by repeat (first | exact Drawn0.refl _ | apply Drawn0.step)⟩

/-! ### parity_Two: function 34 -/
mutual
def parity_Two.l0 : Nat → Int → Int → Int → Int → Int → Option (Int)
  | 0, _, _, _, _, _ => none
  | k + 1, x0, x1, x2, x7, x8 => if x8 ≤ 2 then (parity_Two.l1 k x0 x1 x2 x7 x8 1) else (some x7)
def parity_Two.l1 : Nat → Int → Int → Int → Int → Int → Int → Option (Int)
  | 0, _, _, _, _, _, _ => none
  | k + 1, x0, x1, x2, x7, x8, x9 => if x9 ≤ 2 then (if (Go.bits .and .i64 x1 x8) = 0 then (parity_Two.l1 k x0 x1 x2 x7 x8 (wrap64 (x9 + 1))) else (if (Go.bits .and .i64 x2 x9) = 0 then (parity_Two.l1 k x0 x1 x2 x7 x8 (wrap64 (x9 + 1))) else ((parity_pair.f k x0 x8 x9).bind fun t127 => (parity_Two.l1 k x0 x1 x2 (Go.bits .or .i64 x7 t127) x8 (wrap64 (x9 + 1)))))) else (parity_Two.l0 k x0 x1 x2 x7 (wrap64 (x8 + 1)))
end
def parity_Two.f (k : Nat) (a0 : Int) (a1 : Int) (a2 : Int) : Option (Int) := parity_Two.l0 k a0 a1 a2 0 1
theorem parity_Two.mono_l : ∀ k, (∀ y0 y1 y2 y3 y4, LeO (parity_Two.l0 k y0 y1 y2 y3 y4) (parity_Two.l0 (k + 1) y0 y1 y2 y3 y4)) ∧ (∀ y0 y1 y2 y3 y4 y5, LeO (parity_Two.l1 k y0 y1 y2 y3 y4 y5) (parity_Two.l1 (k + 1) y0 y1 y2 y3 y4 y5))
  | 0 => ⟨fun _ _ _ _ _ r h => by simp [parity_Two.l0] at h, fun _ _ _ _ _ _ r h => by simp [parity_Two.l1] at h⟩
  | k + 1 => by
    obtain ⟨ih0, ih1⟩ := parity_Two.mono_l k
    refine ⟨?_, ?_⟩
    · intro y0 y1 y2 y3 y4
      unfold parity_Two.l0
      repeat' first
      | (with_reducible exact ih0 _ _ _ _ _)
      | (with_reducible exact ih1 _ _ _ _ _ _)
      | (with_reducible exact parity_pair.mono _ _ _ _)
      | (with_reducible exact LeO.refl _)
      | (with_reducible exact LeO.none _)
      | (with_reducible refine LeO.ite ?_ ?_)
      | (with_reducible refine LeO.bind ?_ (fun _ => ?_))
      | exact ih0 _ _ _ _ _
      | exact ih1 _ _ _ _ _ _
      | exact parity_pair.mono _ _ _ _
      | exact LeO.none _
      | refine LeO.ite ?_ ?_
      | refine LeO.bind ?_ (fun _ => ?_)
    · intro y0 y1 y2 y3 y4 y5
      unfold parity_Two.l1
      repeat' first
      | (with_reducible exact ih0 _ _ _ _ _)
      | (with_reducible exact ih1 _ _ _ _ _ _)
      | (with_reducible exact parity_pair.mono _ _ _ _)
      | (with_reducible exact LeO.refl _)
      | (with_reducible exact LeO.none _)
      | (with_reducible refine LeO.ite ?_ ?_)
      | (with_reducible refine LeO.bind ?_ (fun _ => ?_))
      | exact ih0 _ _ _ _ _
      | exact ih1 _ _ _ _ _ _
      | exact parity_pair.mono _ _ _ _
      | exact LeO.none _
      | refine LeO.ite ?_ ?_
      | refine LeO.bind ?_ (fun _ => ?_)
theorem parity_Two.mono : ∀ a0 a1 a2 k, LeO (parity_Two.f k a0 a1 a2) (parity_Two.f (k + 1) a0 a1 a2) := by
  intro a0 a1 a2 k
  obtain ⟨ih0, ih1⟩ := parity_Two.mono_l k
  unfold parity_Two.f
  repeat' first
      | (with_reducible exact ih0 _ _ _ _ _)
      | (with_reducible exact ih1 _ _ _ _ _ _)
      | (with_reducible exact parity_pair.mono _ _ _ _)
      | (with_reducible exact LeO.refl _)
      | (with_reducible exact LeO.none _)
      | (with_reducible refine LeO.ite ?_ ?_)
      | (with_reducible refine LeO.bind ?_ (fun _ => ?_))
      | exact ih0 _ _ _ _ _
      | exact ih1 _ _ _ _ _ _
      | exact parity_pair.mono _ _ _ _
      | exact LeO.none _
      | refine LeO.ite ?_ ?_
      | refine LeO.bind ?_ (fun _ => ?_)
set_option maxHeartbeats 8000000 in
set_option maxRecDepth 100000 in
theorem parity_Two.calls (k : Nat) (a0 : Int) (a1 : Int) (a2 : Int) (r : Int) (w : World) (h : parity_Two.f k a0 a1 a2 = some r) :
    Calls Try.prog 34 #[.int .i64 a0, .int .i64 a1, .int .i64 a2] w fun e w' => e = .returned (.int .i64 r) ∧ Drawn0 w w' := by
  have H : (parity_Two.l0 k a0 a1 a2 0 1) = some r := h
  clear h
  have H' := Aside0.mk H
  clear H
  go_enter Try.func34, Try.ntmps34
  go_wp2
  go_loopg [7, 8] k (fun kq v7 v8 w' => ∃ (x7_1 : Int) (x8_1 : Int), v7 = .int .i64 x7_1 ∧ v8 = .int .i64 x8_1 ∧ Aside0 (parity_Two.l0 kq a0 a1 a2 x7_1 x8_1 = some r) ∧ Aside0 (kq ≤ k) ∧ Drawn0 w w')
  case atStart => exact ⟨(0), (1), (by first | rfl | (simp; done) | (simp [*]; done)), (by first | rfl | (simp; done) | (simp [*]; done)), H', ⟨Nat.le_refl _⟩, by repeat (first | exact Drawn0.refl _ | apply Drawn0.step)⟩
  case round =>
    clear H'
    try clear p2
    try clear c3
    obtain ⟨x7_1, x8_1, rfl, rfl, HA, HK1, ⟨m1, rfl⟩⟩ := hrel
    cases gk with
    | zero => exact absurd HA.out (by simp [parity_Two.l0])
    | succ k1 =>
      have H := HA.out
      clear HA
      simp only [parity_Two.l0] at H
      by_cases c4 : x8_1 ≤ 2
      · rw [if_pos c4] at H
        have c4b0 : decide (x8_1 ≤ 2) = true := decide_eq_true c4
        clear c4
        have H' := Aside0.mk H
        clear H
        go_wp2
        go_loopg [7, 9] k1 (fun kq v7 v9 w' => ∃ (x7_2 : Int) (x9_2 : Int), v7 = .int .i64 x7_2 ∧ v9 = .int .i64 x9_2 ∧ Aside0 (parity_Two.l1 kq a0 a1 a2 x7_2 x8_1 x9_2 = some r) ∧ Aside0 (kq ≤ k1) ∧ Drawn0 w w')
        case atStart => exact ⟨(x7_1), (1), (by first | rfl | (simp; done) | (simp [*]; done)), (by first | rfl | (simp; done) | (simp [*]; done)), H', ⟨Nat.le_refl _⟩, by repeat (first | exact Drawn0.refl _ | apply Drawn0.step)⟩
        case round =>
          clear H'
          try clear p2
          try clear c3
          try clear c4
          try clear c4b0
          try clear p2
          obtain ⟨x7_2, x9_2, rfl, rfl, HA, HK2, ⟨m2, rfl⟩⟩ := hrel
          cases gk with
          | zero => exact absurd HA.out (by simp [parity_Two.l1])
          | succ k2 =>
            have H := HA.out
            clear HA
            simp only [parity_Two.l1] at H
            by_cases c5 : x9_2 ≤ 2
            · rw [if_pos c5] at H
              have c5b0 : decide (x9_2 ≤ 2) = true := decide_eq_true c5
              clear c5
              by_cases c6 : (Go.bits .and .i64 a1 x8_1) = 0
              · rw [if_pos c6] at H
                have c6b0 : ((Go.bits .and .i64 a1 x8_1) == 0) = true := beq_iff_eq.mpr c6
                have c6b1 : ((Go.bits .and .i64 a1 x8_1) != 0) = false := bne_eq_false_iff_eq.mpr c6
                clear c6
                have H' := Aside0.mk H
                clear H
                go_wp2
                go_roundg k2
                case measure => have := HK1.out; have := HK2.out; omega
                case rel => exact ⟨(x7_2), (wrap64 (x9_2 + 1)), (by first | rfl | (simp; done) | (simp [*]; done)), (by first | rfl | (simp; done) | (simp [*]; done)), H', ⟨by have := HK1.out; have := HK2.out; omega⟩, by repeat (first | exact Drawn0.refl _ | apply Drawn0.step)⟩
              · rw [if_neg c6] at H
                have c6b0 : ((Go.bits .and .i64 a1 x8_1) == 0) = false := beq_eq_false_iff_ne.mpr c6
                have c6b1 : ((Go.bits .and .i64 a1 x8_1) != 0) = true := bne_iff_ne.mpr c6
                by_cases c7 : (Go.bits .and .i64 a2 x9_2) = 0
                · rw [if_pos c7] at H
                  have c7b0 : ((Go.bits .and .i64 a2 x9_2) == 0) = true := beq_iff_eq.mpr c7
                  have c7b1 : ((Go.bits .and .i64 a2 x9_2) != 0) = false := bne_eq_false_iff_eq.mpr c7
                  clear c7
                  have H' := Aside0.mk H
                  clear H
                  go_wp2
                  go_roundg k2
                  case measure => have := HK1.out; have := HK2.out; omega
                  case rel => exact ⟨(x7_2), (wrap64 (x9_2 + 1)), (by first | rfl | (simp; done) | (simp [*]; done)), (by first | rfl | (simp; done) | (simp [*]; done)), H', ⟨by have := HK1.out; have := HK2.out; omega⟩, by repeat (first | exact Drawn0.refl _ | apply Drawn0.step)⟩
                · rw [if_neg c7] at H
                  have c7b0 : ((Go.bits .and .i64 a2 x9_2) == 0) = false := beq_eq_false_iff_ne.mpr c7
                  have c7b1 : ((Go.bits .and .i64 a2 x9_2) != 0) = true := bne_iff_ne.mpr c7
                  replace H := Option.bind_eq_some_iff.mp H
                  obtain ⟨t127, A80, H⟩ := H
                  replace H : (parity_Two.l1 k2 a0 a1 a2 (Go.bits .or .i64 x7_2 t127) x8_1 (wrap64 (x9_2 + 1))) = some r := H
                  have A8 := Aside0.mk A80
                  clear A80
                  have H' := Aside0.mk H
                  clear H
                  go_wp2_with (first | ((with_reducible refine gate_callee (f := 46) rfl ?_); refine goesL_ (some 32) rfl rfl Try.func46 (by kernel_rfl) rfl #[.int .i64 a0, .int .i64 x8_1, .int .i64 x9_2] rfl (by (try simp only [List.map_toArray, List.map_cons, List.map_nil]); first | done | rfl | (simp only [List.length_drop, List.length_take]; rfl)) ?_; (with_reducible refine (parity_pair.calls k2 a0 x8_1 x9_2 t127 _ A8.out).mono ?_); rintro e w' ⟨rfl, ⟨nd, rfl⟩⟩; refine ⟨_, rfl, ?_⟩))
                  go_roundg k2
                  case measure => have := HK1.out; have := HK2.out; omega
                  case rel => exact ⟨(Go.bits .or .i64 x7_2 t127), (wrap64 (x9_2 + 1)), (by first | rfl | (simp; done) | (simp [*]; done)), (by first | rfl | (simp; done) | (simp [*]; done)), H', ⟨by have := HK1.out; have := HK2.out; omega⟩, by repeat (first | exact Drawn0.refl _ | apply Drawn0.step)⟩
            · rw [if_neg c5] at H
              have c5b0 : decide (x9_2 ≤ 2) = false := decide_eq_false c5
              clear c5
              have H' := Aside0.mk H
              clear H
              go_wp2
              go_roundg k2
              case measure => have := HK1.out; have := HK2.out; omega
              case rel => exact ⟨(x7_2), (wrap64 (x8_1 + 1)), (by first | rfl | (simp; done) | (simp [*]; done)), (by first | rfl | (simp; done) | (simp [*]; done)), H', ⟨by have := HK1.out; have := HK2.out; omega⟩, by repeat (first | exact Drawn0.refl _ | apply Drawn0.step)⟩
      · rw [if_neg c4] at H
        have c4b0 : decide (x8_1 ≤ 2) = false := decide_eq_false c4
        clear c4
        obtain rfl := Option.some.inj H
        go_wp2
        go_ret
        exact ⟨by first | rfl | (simp; done) | (simp [*]; done), by repeat (first | exact Drawn0.refl _ | apply Drawn0.step)⟩

/-! ### parity_Branch: function 36 -/
def parity_Branch.f (a0 : Int) (a1 : Bool) : Option (Int) := if a1 = true then (some (Go.bits .and .i64 a0 3)) else (some (Go.bits .and .i64 a0 1))
set_option maxHeartbeats 8000000 in
set_option maxRecDepth 100000 in
theorem parity_Branch.calls (a0 : Int) (a1 : Bool) (r : Int) (w : World) (h : parity_Branch.f a0 a1 = some r) :
    Calls Try.prog 36 #[.int .i64 a0, .bool a1] w fun e w' => e = .returned (.int .i64 r) ∧ Drawn0 w w' := by
  have H : (if a1 = true then (some (Go.bits .and .i64 a0 3)) else (some (Go.bits .and .i64 a0 1))) = some r := h
  clear h
  by_cases c3 : a1 = true
  · subst c3
    have H1 : (some (Go.bits .and .i64 a0 3)) = some r := by rw [if_pos rfl] at H; exact H
    clear H
    have H := H1
    clear H1
    obtain rfl := Option.some.inj H
    go_enter Try.func36, Try.ntmps36
    go_wp2
    go_ret
    exact ⟨by first | rfl | (simp; done) | (simp [*]; done), by repeat (first | exact Drawn0.refl _ | apply Drawn0.step)⟩
  · replace c3 := Bool.eq_false_iff.mpr c3
    subst c3
    have H1 : (some (Go.bits .and .i64 a0 1)) = some r := by rw [if_neg (show ¬ (false = true) by decide)] at H; exact H
    clear H
    have H := H1
    clear H1
    obtain rfl := Option.some.inj H
    go_enter Try.func36, Try.ntmps36
    go_wp2
    go_ret
    exact ⟨by first | rfl | (simp; done) | (simp [*]; done), by repeat (first | exact Drawn0.refl _ | apply Drawn0.step)⟩

end Go.Proofs.Ytiehdiohoehcpaa.PR
