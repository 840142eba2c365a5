/- The row of SignRises: for every input the law returns true. No condition. -/
import Derived.Test.YtiehdiohoehcpaaRows
import Derived.Test.YtiehdiohoehcpaaPR8
import Derived.Test.YtiehdiohoehcpaaPureSignRises
import Derived.Test.YtiehdiohoehcpaaFlat
import Derived.WalkKit
import Derived.ProofKit
import Derived.OpenShut
import Derived.ShutString
import Derived.ChangeOld
import Derived.Below
import Derived.Carry
import Derived.SizedLaws
namespace Go.Proofs.Ytiehdiohoehcpaa.signRises
open Go.ChangeShapes Go.WideShapes Go.ChangeAt Go.RowKit Go.Proofs.Ytiehdiohoehcpaa.Flat
theorem own : ownKnob Try.prog.godebug = none := by kernel_rfl
theorem laidOut : laidOutB Try.prog = true := by kernel_rfl
theorem flat_3 : Flat Try.prog 3 [.i .i64] := flat_int Try.underlying3
theorem flat_34 : Flat Try.prog 34 [.i .i64, .i .i64] := fun {_ _ _ _ _ _ _ cs _} h => by
  obtain ⟨hl, m, hf⟩ := arr_step Try.underlying34 h
  obtain ⟨y0, hy0⟩ := hf 0 (by decide)
  have g0 : Lvs [.i .i64] ((cs.drop 0).take 1) := flat_3 hy0
  obtain ⟨y1, hy1⟩ := hf 1 (by decide)
  have g1 : Lvs [.i .i64] ((cs.drop 1).take 1) := flat_3 hy1
  have hl : cs.length = 2 := hl
  exact (Lvs.seg cs 0 1 g0 (Lvs.last cs 1 1 hl g1) : Lvs _ (cs.drop 0))
set_option maxRecDepth 100000 in
theorem lifted (os : Os) (started : os.Started) (H : Type) (enc : TypeId × Value → H) :
    ReturnsInHanded {} Try.checked os 12 .any (Rows.signRisesSpec.pre6 enc Try.prog Try.f12 Rows.signRisesRow.domain false) (Rows.signRisesSpec.post enc Try.prog Try.f12 false true false false) := by
  refine returnsInHanded_of_change_sized (C := Try.checked) own started (by kernel_rfl) Try.func12
    (ChangeSpec.witness6 (enc := enc) (C := Try.checked) false ⟨#[], #[.int .i64 0, .agg #[.int .i64 0, .int .i64 0], .int .i64 0], []⟩ 8 (by kernel_rfl) (by kernel_rfl) (by kernel_rfl) (by kernel_rfl)) ?_
  intro W base args ds gs before hval0 hW hcnd hsz0 _
  have hval : ∀ (j : Nat) t v, Try.f12.params[j]? = some t → args[j]? = some v → Value.okWide Try.prog W .any base t v := hval0
  have hW' := hW
  obtain ⟨p, q, hA0, hV, rfl, hfz, hnd⟩ := hW
  have hA : DataW.TrodAll enc Try.prog W 0 (fun _ => true) true Try.f12.params.toList args.toList ds p := hA0
  rw [Try.params12] at hA hval
  obtain ⟨v0, vs0, d0, ds0, p0, q0, hargs, rfl, rfl, h0, r0⟩ := trodAll_cons hA
  obtain ⟨v1, vs1, d1, ds1, p1, q1, rfl, rfl, rfl, h1, r1⟩ := trodAll_cons r0
  obtain ⟨v2, vs2, d2, ds2, p2, q2, rfl, rfl, rfl, h2, r2⟩ := trodAll_cons r1
  obtain ⟨rfl, rfl, rfl⟩ := trodAll_nil r2
  obtain rfl : args = #[v0, v1, v2] := by cases args; simp_all
  obtain ⟨rfl, rfl⟩ := trodVars_none hV
  obtain ⟨a0, rfl, rfl, rfl, w0⟩ := open_int Try.underlying3 (hval 0 3 v0 rfl rfl) h0
  have k1 := h1
  have lt1 : ∀ x ∈ p1, x.block < W.heap.size := by obtain ⟨m, hm⟩ := k1; exact DataW.trod_lt m _ _ _ hm
  obtain ⟨fuel1, hf1⟩ := h1
  have L1 := flat_34 hf1
  obtain ⟨_, _, e1_0, ⟨a1_0, rfl, w1_0⟩, ⟨_, _, e1_1, ⟨a1_1, rfl, w1_1⟩, e1_2⟩⟩ := L1
  have E1 : v1.cells.toList = [.int .i64 a1_0, .int .i64 a1_1] := by rw [e1_0, e1_1, e1_2]
  obtain ⟨cs1, rfl, hc1⟩ := agg_of (v := v1) (by rw [E1]; simp)
  obtain rfl : cs1 = #[.int .i64 a1_0, .int .i64 a1_1] := by rw [hc1] at E1; exact Array.toList_inj.mp E1
  obtain ⟨a2, rfl, rfl, rfl, w2⟩ := open_int Try.underlying3 (hval 2 3 v2 rfl rfl) h2
  clear hA0 hval0 hsz0
  obtain ⟨k, hP⟩ := Pure.SignRises a0 a1_0 a1_1 a2 w0 w1_0 w1_1 w2
  refine (PR.avermentlaw08_SignRises.calls k a0 a1_0 a1_1 a2 true W hP).mono fun e W' ⟨he, bel0⟩ => ?_
  have bel := bel0
  subst he
  exact ⟨_, rfl, _, _, _, [], _, [], hW', trodAll_mk1 (shut_bool Try.underlying4 _), (trodAll_cons_mk (shut_int Try.underlying3 w0) (trodAll_cons_mk (Below.trod laidOut (by kernel_rfl) (of_decide_eq_true (by kernel_rfl)) k1 bel lt1) (trodAll_cons_mk (shut_int Try.underlying3 w2) trodAll_mk0))), rfl, bel.frame _, fun h => by cases h⟩
theorem over : Rows.signRisesRow.holds Try.pinned (OpenSpec.ofChange Rows.signRisesSpec) :=
  OpenClaim.holds_of_wide 12 Try.f12 rfl rfl rfl rfl rfl rfl rfl ⟨rfl, rfl, rfl, rfl, rfl⟩ rfl rfl rfl rfl rfl (by kernel_rfl) Try.func12 (by kernel_rfl)
    (of_decide_eq_true (by kernel_rfl)) (by unfold Func.isWrapper; first | (rw [if_pos (by decide +kernel)]; kernel_rfl) | (rw [if_neg (by decide +kernel)]; exact ⟨rfl, rfl⟩))
    (fun os started H enc _ => lifted os started H enc)
theorem proved : Rows.SignRisesSaid := over
#print axioms proved
end Go.Proofs.Ytiehdiohoehcpaa.signRises
namespace Go.Proofs.Ytiehdiohoehcpaa
/-- The row, under a short name, for the claim. -/
theorem signRises_holds : Rows.SignRisesSaid := signRises.proved
end Go.Proofs.Ytiehdiohoehcpaa
