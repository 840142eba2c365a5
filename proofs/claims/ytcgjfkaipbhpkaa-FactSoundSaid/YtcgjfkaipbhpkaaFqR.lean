/- Of more numbers as many come about, or more, of every operation: the plain law. No condition. -/
import Derived.Test.YtcgjfkaipbhpkaaFqT

namespace Go.Proofs.Ytcgjfkaipbhpkaa.FO
open Go.RowKit Go.Proofs.YtcgjfkaipbhpkaaX Go.Proofs.Ytcgjfkaipbhpkaa.Sr
set_option linter.unusedVariables false
set_option linter.unusedSimpArgs false
theorem told_val : avermentlaw12_told.f = some true := by decide +kernel
theorem fallF {x y : V × Bool} (h : RUp x y) (K : Option Bool) : (bif x.2 then bif !y.2 then some false else bif !(W x.1 y.1) then some false else K else K) = K := by
  unfold RUp at h
  cases e : x.2 with
  | false => rfl
  | true => obtain ⟨h1, h2⟩ := h e; rw [h1, h2]; rfl
theorem fallF2 {x y z : V × Bool} (h : RUp x y) (g : RUp x z) (K : Option Bool) : (bif x.2 then bif !y.2 then some false else bif !z.2 then some false else bif !(W x.1 y.1) then some false else bif !(W x.1 z.1) then some false else K else K) = K := by
  unfold RUp at h g
  cases e : x.2 with
  | false => rfl
  | true => obtain ⟨h1, h2⟩ := h e; obtain ⟨g1, g2⟩ := g e; rw [h1, h2, g1, g2]; rfl
theorem fixed (s : Int) (kb : Bool) (kn lo hi p : Int) (h1 : (Lit.int .i64 lo).wf = true) (h2 : (Lit.int .i64 hi).wf = true) : ∃ x, avermentref12_Fix.f s kb kn lo hi p = some x.t ∧ Ok x ∧ Fit x ∧ (x.kb = kb ∧ (kb = true → x.kn = kn)) := by
  obtain ⟨x, e, ok, h, k⟩ := Fix_val s kb kn lo hi p
  have f1 := fits_of h1
  have f2 := fits_of h2
  refine ⟨x, e, ok, ?_, k⟩
  rcases h with h | h
  · exact ⟨by rw [h.1]; exact f1, by rw [h.2]; exact f2⟩
  · exact ⟨by rw [h.1]; exact f2, by rw [h.2]; exact f1⟩
set_option maxHeartbeats 8000000 in
theorem FactRises (op : Int) (a0 : Int) (a1 : Bool) (a2 a3 a4 a5 : Int) (b0 : Int) (b1 : Bool) (b2 b3 b4 b5 : Int) (c0 : Int) (c1 : Bool) (c2 c3 c4 c5 : Int) (h0 : (Lit.int .i64 op).wf = true)
    (ha0 : (Lit.int .i64 a0).wf = true) (ha2 : (Lit.int .i64 a2).wf = true) (ha3 : (Lit.int .i64 a3).wf = true) (ha4 : (Lit.int .i64 a4).wf = true) (ha5 : (Lit.int .i64 a5).wf = true)
    (hb0 : (Lit.int .i64 b0).wf = true) (hb2 : (Lit.int .i64 b2).wf = true) (hb3 : (Lit.int .i64 b3).wf = true) (hb4 : (Lit.int .i64 b4).wf = true) (hb5 : (Lit.int .i64 b5).wf = true)
    (hc0 : (Lit.int .i64 c0).wf = true) (hc2 : (Lit.int .i64 c2).wf = true) (hc3 : (Lit.int .i64 c3).wf = true) (hc4 : (Lit.int .i64 c4).wf = true) (hc5 : (Lit.int .i64 c5).wf = true) :
    avermentlaw12_FactRises.f op a0 a1 a2 a3 a4 a5 b0 b1 b2 b3 b4 b5 c0 c1 c2 c3 c4 c5 = some true := by
  obtain ⟨x, ex, ox, fx, -⟩ := fixed a0 a1 a2 a3 a4 a5 ha3 ha4
  obtain ⟨y, ey, oy, fy, -⟩ := fixed b0 b1 b2 b3 b4 b5 hb3 hb4
  obtain ⟨z, ez, oz, fz, -⟩ := fixed c0 c1 c2 c3 c4 c5 hc3 hc4
  have jxz := J_ok ox oz
  have jyz := J_ok oy oz
  have fxz := J_fit fx fz
  have fyz := J_fit fy fz
  have wxx : W x x = true := by rw [W_iff]; exact ⟨Nat.and_self _, fun e => ⟨e, rfl⟩, ⟨Int.le_refl _, Int.le_refl _⟩, Nat.and_self _⟩
  have wyy : W y y = true := by rw [W_iff]; exact ⟨Nat.and_self _, fun e => ⟨e, rfl⟩, ⟨Int.le_refl _, Int.le_refl _⟩, Nat.and_self _⟩
  have wx := W_J_l ox.toWk oz.toWk
  have wy := W_J_l oy.toWk oz.toWk
  have u1 := two_Up op ox oy jxz oy fx fy fxz fy wx wyy
  have u2 := two_Up op ox oy ox jyz fx fy fx fyz wxx wy
  have u3 := one_Up op ox jxz fx fxz wx
  have u4 := branch_Up ox jxz false wx
  have u5 := branch_Up ox jxz true wx
  have v1 := two_Val op ox oy fx fy
  have v2 := two_Val op jxz oy fxz fy
  have v3 := two_Val op ox jyz fx fyz
  have v4 := one_Val op ox fx
  have v5 := one_Val op jxz fxz
  have j1 := J_val ox.toWk oz.toWk
  have j2 := J_val oy.toWk oz.toWk
  have q1 := branch_Val ox false
  have q2 := branch_Val jxz false
  have q3 := branch_Val ox true
  have q4 := branch_Val jxz true
  have w1 := W_val (two_wk op ox.toWk oy.toWk) (two_wk op jxz.toWk oy.toWk)
  have w2 := W_val (two_wk op ox.toWk oy.toWk) (two_wk op ox.toWk jyz.toWk)
  have w3 := W_val (one_wk op ox.toWk) (one_wk op jxz.toWk)
  have w4 := W_val (branch_wk ox.toWk false) (branch_wk jxz.toWk false)
  have w5 := W_val (branch_wk ox.toWk true) (branch_wk jxz.toWk true)
  have n0 : ((0 : Nat) == 1) = false := rfl
  have n1 : (IntKind.i64.wrap (0 + 1) == 1) = true := by decide +kernel
  unfold avermentlaw12_FactRises.f
  simp only [ex, ey, ez, some_bind, To_val, v1, v2, v3, v4, v5, j1, j2, told_val, n0, n1, q1, q2, q3, q4, out, w1, w2, w3, w4, w5, Bool.not_true, cond_false]
  simp only [fallF u5, fallF u4, fallF u3, fallF2 u1 u2]
end Go.Proofs.Ytcgjfkaipbhpkaa.FO
