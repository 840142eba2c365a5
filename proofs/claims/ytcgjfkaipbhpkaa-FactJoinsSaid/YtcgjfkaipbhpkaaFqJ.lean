/- Join and Meet hang on no order; Join is within all that has both, Meet has all that is within both: the plain law. No condition. -/
import Derived.Test.YtcgjfkaipbhpkaaFqA

namespace Go.Proofs.Ytcgjfkaipbhpkaa.FJ
open Go.Proofs.YtcgjfkaipbhpkaaX
set_option linter.unusedVariables false
set_option linter.unusedSimpArgs false
theorem told_val : avermentlaw12_told.f = some true := by decide +kernel
set_option maxHeartbeats 4000000 in
theorem FactJoins (a0_0 : Int) (a0_1 : Bool) (a0_2 : Int) (a0_3 : Int) (a0_4 : Int) (a0_5 : Int) (a1_0 : Int) (a1_1 : Bool) (a1_2 : Int) (a1_3 : Int) (a1_4 : Int) (a1_5 : Int) (a2_0 : Int) (a2_1 : Bool) (a2_2 : Int) (a2_3 : Int) (a2_4 : Int) (a2_5 : Int) :
    avermentlaw12_FactJoins.f a0_0 a0_1 a0_2 a0_3 a0_4 a0_5 a1_0 a1_1 a1_2 a1_3 a1_4 a1_5 a2_0 a2_1 a2_2 a2_3 a2_4 a2_5 = some true := by
  obtain ⟨x, hx, ox, -⟩ := Fix_val a0_0 a0_1 a0_2 a0_3 a0_4 a0_5
  obtain ⟨y, hy, oy, -⟩ := Fix_val a1_0 a1_1 a1_2 a1_3 a1_4 a1_5
  obtain ⟨z, hz, oz, -⟩ := Fix_val a2_0 a2_1 a2_2 a2_3 a2_4 a2_5
  have wx := ox.toWk
  have wy := oy.toWk
  have wz := oz.toWk
  have wj := J_wk wx wy
  have wm := M_wk wx wy
  have wq := M_wk wy wz
  have j1 := J_val wx wy
  have j2 := J_val wy wx
  rw [J_comm (x := y)] at j2
  have j3 := J_val wj wz
  have j4 := J_val wy wz
  have j5 := J_val wx (J_wk wy wz)
  rw [← J_assoc] at j5
  have j6 := J_val wx wx
  rw [J_idem wx] at j6
  have w1 := W_val wx wj
  rw [W_J_l wx wy] at w1
  have w2 := W_val wy wj
  rw [W_J_r wx wy] at w2
  have w3 := W_val wx wz
  have w4 := W_val wy wz
  have w5 := W_val wj wz
  have m1 := M_val wx wy
  have m2 := M_val wy wx
  rw [M_comm wy wx, N_comm (x := y)] at m2
  have w6 := W_val wm wx
  have w7 := W_val wm wy
  have w8 := W_val wz wx
  have w9 := W_val wz wy
  have w10 := W_val wz wm
  have m3 := M_val wm wz
  have m4 := M_val wy wz
  have m5 := M_val wx wq
  have i1 : W x z = true → W y z = true → W (J x y) z = true := J_W wx wy wz
  have i2 : N x y = true → W (M x y) x = true := W_M_l wx wy
  have i3 : N x y = true → W (M x y) y = true := W_M_r wx wy
  have i4 : W z x = true → W z y = true → N x y = true ∧ W z (M x y) = true := W_both wx wy oz
  have i5 := N_three wx wy wz
  have i6 := M_three wx wy wz
  unfold avermentlaw12_FactJoins.f
  simp only [hx, hy, hz, some_bind, To_val, told_val, j1, j2, j3, j4, j5, j6, w1, w2, w3, w4, w5, w6, w7, w8, w9, w10, m1, m2, m3, m4, m5, beq_self_eq_true, Bool.and_self, Bool.not_true, cond_false, Bool.not_false, cond_true]
  clear hx hy hz j1 j2 j3 j4 j5 j6 w1 w2 w3 w4 w5 w6 w7 w8 w9 w10 m1 m2 m3 m4 m5
  have i7 : (N x y && N (M x y) z) = true → ((M (M x y) z).t.1 == (M x (M y z)).t.1 && ((M (M x y) z).t.2.1 == (M x (M y z)).t.2.1 && (M (M x y) z).t.2.2.1 == (M x (M y z)).t.2.2.1 && ((M (M x y) z).t.2.2.2.1 == (M x (M y z)).t.2.2.2.1 && (M (M x y) z).t.2.2.2.2.1 == (M x (M y z)).t.2.2.2.2.1 && (M (M x y) z).t.2.2.2.2.2 == (M x (M y z)).t.2.2.2.2.2))) = true := fun h => by
    rw [i6 h]; simp only [beq_self_eq_true, Bool.and_self]
  clear i6
  generalize ((M (M x y) z).t.1 == (M x (M y z)).t.1 && ((M (M x y) z).t.2.1 == (M x (M y z)).t.2.1 && (M (M x y) z).t.2.2.1 == (M x (M y z)).t.2.2.1 && ((M (M x y) z).t.2.2.2.1 == (M x (M y z)).t.2.2.2.1 && (M (M x y) z).t.2.2.2.2.1 == (M x (M y z)).t.2.2.2.2.1 && (M (M x y) z).t.2.2.2.2.2 == (M x (M y z)).t.2.2.2.2.2))) = c at *
  generalize W (J x y) z = b1 at *
  generalize W (M x y) x = b2 at *
  generalize W (M x y) y = b3 at *
  generalize W z (M x y) = b4 at *
  generalize N (M x y) z = b5 at *
  generalize N x (M y z) = b6 at *
  generalize N x y = b7 at *
  generalize N y z = b8 at *
  generalize W x z = b9 at *
  generalize W y z = b10 at *
  generalize W z x = b11 at *
  generalize W z y = b12 at *
  clear ox oy oz wx wy wz wj wm wq
  cases b7 <;> cases b8 <;> cases b5 <;> cases b6 <;> simp only [Bool.and_true, Bool.and_false, Bool.true_and, Bool.false_and, reduceCtorEq, false_implies, true_implies, forall_const] at i2 i3 i4 i5 i7 <;> cases b9 <;> cases b10 <;> cases b11 <;> cases b12 <;> simp_all
end Go.Proofs.Ytcgjfkaipbhpkaa.FJ
