/- The row of SpanRises: for every input the law returns true. No condition. -/
import Derived.Test.YtpacmhhaabhdjaaRows
import Derived.Test.YtpacmhhaabhdjaaSrR
import Derived.Test.YtpacmhhaabhdjaaFlat
import Derived.WalkKit
import Derived.ProofKit
import Derived.OpenShut
import Derived.ShutString
import Derived.ChangeOld
import Derived.Below
import Derived.Carry
import Derived.SizedLaws
namespace Go.Proofs.Ytpacmhhaabhdjaa.spanRises
open Go.ChangeShapes Go.WideShapes Go.ChangeAt Go.RowKit Go.Proofs.Ytpacmhhaabhdjaa.Flat
theorem own : ownKnob Try.prog.godebug = none := by kernel_rfl
theorem laidOut : laidOutB Try.prog = true := by kernel_rfl
theorem flat_2 : Flat Try.prog 2 [.i .i64] := flat_int Try.underlying2
set_option maxRecDepth 100000 in
theorem flat_56 : Flat Try.prog 56 [.i .i64, .i .i64] := fun {_ _ _ _ _ _ _ cs _} h => by
  obtain ⟨xs, n, _, _, hl, hlen, hf⟩ := DataW.trod_struct Try.underlying56 h
  obtain ⟨y0, hy0⟩ := some_at hlen (show 0 < _ by decide) (hf 0 _ rfl)
  have g0 : Lvs [.i .i64] ((cs.drop 0).take 1) := flat_2 hy0
  obtain ⟨y1, hy1⟩ := some_at hlen (show 1 < _ by decide) (hf 1 _ rfl)
  have g1 : Lvs [.i .i64] ((cs.drop 1).take 1) := flat_2 hy1
  have hl : cs.length = 2 := hl
  exact (Lvs.seg cs 0 1 g0 (Lvs.last cs 1 1 hl g1) : Lvs _ (cs.drop 0))
set_option maxRecDepth 100000 in
theorem flat_87 : Flat Try.prog 87 [.i .i64, .i .i64, .i .i64, .i .i64] := fun {_ _ _ _ _ _ _ cs _} h => by
  obtain ⟨hl, m, hf⟩ := arr_step Try.underlying87 h
  obtain ⟨y0, hy0⟩ := hf 0 (by decide)
  have g0 : Lvs [.i .i64, .i .i64] ((cs.drop 0).take 2) := flat_56 hy0
  obtain ⟨y1, hy1⟩ := hf 1 (by decide)
  have g1 : Lvs [.i .i64, .i .i64] ((cs.drop 2).take 2) := flat_56 hy1
  have hl : cs.length = 4 := hl
  exact (Lvs.seg cs 0 2 g0 (Lvs.last cs 2 2 hl g1) : Lvs _ (cs.drop 0))
set_option maxRecDepth 100000 in
theorem lifted (os : Os) (started : os.Started) (H : Type) (enc : TypeId × Value → H) :
    ReturnsInHanded {} Try.checked os 12 .any (Rows.spanRisesSpec.pre6 enc Try.prog Try.f12 Rows.spanRisesRow.domain false) (Rows.spanRisesSpec.post enc Try.prog Try.f12 false true false false) := by
  refine returnsInHanded_of_change_sized (C := Try.checked) own started (by kernel_rfl) Try.func12
    (ChangeSpec.witness6 (enc := enc) (C := Try.checked) false ⟨#[], #[.int .i64 0, .agg #[.int .i64 0, .int .i64 0, .int .i64 0, .int .i64 0], .agg #[.int .i64 0, .int .i64 0]], []⟩ 8 (by kernel_rfl) (by kernel_rfl) (by kernel_rfl) (by kernel_rfl)) ?_
  intro W base args ds gs before hval0 hW hcnd hsz0 _
  have hval : ∀ (j : Nat) t v, Try.f12.params[j]? = some t → args[j]? = some v → Value.okWide Try.prog W .any base t v := hval0
  have hW' := hW
  obtain ⟨p, q, hA0, hV, rfl, hfz, hnd⟩ := hW
  have hA : DataW.TrodAll enc Try.prog W 0 (fun _ => true) true Try.f12.params.toList args.toList ds p := hA0
  rw [Try.params12] at hA hval
  obtain ⟨v0, vs0, d0, ds0, p0, q0, hargs, rfl, rfl, h0, r0⟩ := trodAll_cons hA
  obtain ⟨v1, vs1, d1, ds1, p1, q1, rfl, rfl, rfl, h1, r1⟩ := trodAll_cons r0
  obtain ⟨v2, vs2, d2, ds2, p2, q2, rfl, rfl, rfl, h2, r2⟩ := trodAll_cons r1
  obtain ⟨rfl, rfl, rfl⟩ := trodAll_nil r2
  obtain rfl : args = #[v0, v1, v2] := by cases args; simp_all
  obtain ⟨rfl, rfl⟩ := trodVars_none hV
  obtain ⟨a0, rfl, rfl, rfl, w0⟩ := open_int Try.underlying3 (hval 0 3 v0 rfl rfl) h0
  have k1 := h1
  have lt1 : ∀ x ∈ p1, x.block < W.heap.size := by obtain ⟨m, hm⟩ := k1; exact DataW.trod_lt m _ _ _ hm
  obtain ⟨fuel1, hf1⟩ := h1
  have L1 := flat_87 hf1
  obtain ⟨_, _, e1_0, ⟨a1_0, rfl, w1_0⟩, ⟨_, _, e1_1, ⟨a1_1, rfl, w1_1⟩, ⟨_, _, e1_2, ⟨a1_2, rfl, w1_2⟩, ⟨_, _, e1_3, ⟨a1_3, rfl, w1_3⟩, e1_4⟩⟩⟩⟩ := L1
  have E1 : v1.cells.toList = [.int .i64 a1_0, .int .i64 a1_1, .int .i64 a1_2, .int .i64 a1_3] := by rw [e1_0, e1_1, e1_2, e1_3, e1_4]
  obtain ⟨cs1, rfl, hc1⟩ := agg_of (v := v1) (by rw [E1]; simp)
  obtain rfl : cs1 = #[.int .i64 a1_0, .int .i64 a1_1, .int .i64 a1_2, .int .i64 a1_3] := by rw [hc1] at E1; exact Array.toList_inj.mp E1
  have k2 := h2
  have lt2 : ∀ x ∈ p2, x.block < W.heap.size := by obtain ⟨m, hm⟩ := k2; exact DataW.trod_lt m _ _ _ hm
  obtain ⟨fuel2, hf2⟩ := h2
  have L2 := flat_56 hf2
  obtain ⟨_, _, e2_0, ⟨a2_0, rfl, w2_0⟩, ⟨_, _, e2_1, ⟨a2_1, rfl, w2_1⟩, e2_2⟩⟩ := L2
  have E2 : v2.cells.toList = [.int .i64 a2_0, .int .i64 a2_1] := by rw [e2_0, e2_1, e2_2]
  obtain ⟨cs2, rfl, hc2⟩ := agg_of (v := v2) (by rw [E2]; simp)
  obtain rfl : cs2 = #[.int .i64 a2_0, .int .i64 a2_1] := by rw [hc2] at E2; exact Array.toList_inj.mp E2
  clear hA0 hval0 hsz0
  have hP := SR.SpanRises a0 a1_0 a1_1 a1_2 a1_3 a2_0 a2_1 w0 w1_0 w1_1 w1_2 w1_3 w2_0 w2_1
  refine (SR.avermentlaw10_SpanRises.rets a0 a1_0 a1_1 a1_2 a1_3 a2_0 a2_1 true hP W).mono fun e W' ⟨he, bel0⟩ => ?_
  have bel := bel0
  subst he
  exact ⟨_, rfl, _, _, _, [], _, [], hW', trodAll_mk1 (shut_bool Try.underlying4 _), (trodAll_cons_mk (shut_int Try.underlying3 w0) (trodAll_cons_mk (Below.trod laidOut (by kernel_rfl) (of_decide_eq_true (by kernel_rfl)) k1 bel lt1) (trodAll_cons_mk (Below.trod laidOut (by kernel_rfl) (of_decide_eq_true (by kernel_rfl)) k2 bel lt2) trodAll_mk0))), rfl, bel.frame _, fun h => by cases h⟩
theorem over : Rows.spanRisesRow.holds Try.pinned (OpenSpec.ofChange Rows.spanRisesSpec) :=
  OpenClaim.holds_of_wide 12 Try.f12 rfl rfl rfl rfl rfl rfl rfl ⟨rfl, rfl, rfl, rfl, rfl⟩ rfl rfl rfl rfl rfl (by kernel_rfl) Try.func12 (by kernel_rfl)
    (of_decide_eq_true (by kernel_rfl)) (by unfold Func.isWrapper; first | (rw [if_pos (by decide +kernel)]; kernel_rfl) | (rw [if_neg (by decide +kernel)]; exact ⟨rfl, rfl⟩))
    (fun os started H enc _ => lifted os started H enc)
theorem proved : Rows.SpanRisesSaid := over
#print axioms proved
end Go.Proofs.Ytpacmhhaabhdjaa.spanRises
namespace Go.Proofs.Ytpacmhhaabhdjaa
/-- The row, under a short name, for the claim. -/
theorem spanRises_holds : Rows.SpanRisesSaid := spanRises.proved
end Go.Proofs.Ytpacmhhaabhdjaa
