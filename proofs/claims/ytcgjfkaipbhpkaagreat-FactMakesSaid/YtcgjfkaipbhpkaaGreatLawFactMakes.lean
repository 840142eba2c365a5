/- The row of FactMakes: for every input the law returns true. No condition. -/
import Derived.Test.YtcgjfkaipbhpkaaGreatRows
import Derived.Test.YtcgjfkaipbhpkaaGreatFqM
import Derived.Test.YtcgjfkaipbhpkaaGreatFlat
import Derived.WalkKit
import Derived.ProofKit
import Derived.OpenShut
import Derived.ShutString
import Derived.ChangeOld
import Derived.Below
import Derived.Carry
import Derived.SizedLaws
namespace Go.Proofs.YtcgjfkaipbhpkaaGreat.factMakes
open Go.ChangeShapes Go.WideShapes Go.ChangeAt Go.RowKit Go.Proofs.YtcgjfkaipbhpkaaGreat.Flat
theorem own : ownKnob Tryz.prog.godebug = none := by kernel_rfl
theorem laidOut : laidOutB Tryz.prog = true := by kernel_rfl
theorem flat_3 : Flat Tryz.prog 3 [.i .i64] := flat_int Tryz.underlying3
theorem flat_4 : Flat Tryz.prog 4 [.b] := flat_bool Tryz.underlying4
theorem flat_2 : Flat Tryz.prog 2 [.i .i64] := flat_int Tryz.underlying2
set_option maxRecDepth 100000 in
theorem flat_23 : Flat Tryz.prog 23 [.b, .i .i64] := fun {_ _ _ _ _ _ _ cs _} h => by
  obtain ⟨xs, n, _, _, hl, hlen, hf⟩ := DataW.trod_struct Tryz.underlying23 h
  obtain ⟨y0, hy0⟩ := some_at hlen (show 0 < _ by decide) (hf 0 _ rfl)
  have g0 : Lvs [.b] ((cs.drop 0).take 1) := flat_4 hy0
  obtain ⟨y1, hy1⟩ := some_at hlen (show 1 < _ by decide) (hf 1 _ rfl)
  have g1 : Lvs [.i .i64] ((cs.drop 1).take 1) := flat_2 hy1
  have hl : cs.length = 2 := hl
  exact (Lvs.seg cs 0 1 g0 (Lvs.last cs 1 1 hl g1) : Lvs _ (cs.drop 0))
set_option maxRecDepth 100000 in
theorem flat_25 : Flat Tryz.prog 25 [.i .i64, .i .i64] := fun {_ _ _ _ _ _ _ cs _} h => by
  obtain ⟨xs, n, _, _, hl, hlen, hf⟩ := DataW.trod_struct Tryz.underlying25 h
  obtain ⟨y0, hy0⟩ := some_at hlen (show 0 < _ by decide) (hf 0 _ rfl)
  have g0 : Lvs [.i .i64] ((cs.drop 0).take 1) := flat_2 hy0
  obtain ⟨y1, hy1⟩ := some_at hlen (show 1 < _ by decide) (hf 1 _ rfl)
  have g1 : Lvs [.i .i64] ((cs.drop 1).take 1) := flat_2 hy1
  have hl : cs.length = 2 := hl
  exact (Lvs.seg cs 0 1 g0 (Lvs.last cs 1 1 hl g1) : Lvs _ (cs.drop 0))
set_option maxRecDepth 100000 in
theorem flat_27 : Flat Tryz.prog 27 [.i .i64, .b, .i .i64, .i .i64, .i .i64, .i .i64] := fun {_ _ _ _ _ _ _ cs _} h => by
  obtain ⟨xs, n, _, _, hl, hlen, hf⟩ := DataW.trod_struct Tryz.underlying27 h
  obtain ⟨y0, hy0⟩ := some_at hlen (show 0 < _ by decide) (hf 0 _ rfl)
  have g0 : Lvs [.i .i64] ((cs.drop 0).take 1) := flat_3 hy0
  obtain ⟨y1, hy1⟩ := some_at hlen (show 1 < _ by decide) (hf 1 _ rfl)
  have g1 : Lvs [.b, .i .i64] ((cs.drop 1).take 2) := flat_23 hy1
  obtain ⟨y2, hy2⟩ := some_at hlen (show 2 < _ by decide) (hf 2 _ rfl)
  have g2 : Lvs [.i .i64, .i .i64] ((cs.drop 3).take 2) := flat_25 hy2
  obtain ⟨y3, hy3⟩ := some_at hlen (show 3 < _ by decide) (hf 3 _ rfl)
  have g3 : Lvs [.i .i64] ((cs.drop 5).take 1) := flat_3 hy3
  have hl : cs.length = 6 := hl
  exact (Lvs.seg cs 0 1 g0 (Lvs.seg cs 1 2 g1 (Lvs.seg cs 3 2 g2 (Lvs.last cs 5 1 hl g3))) : Lvs _ (cs.drop 0))
set_option maxRecDepth 100000 in
theorem lifted (os : Os) (started : os.Started) (H : Type) (enc : TypeId × Value → H) :
    ReturnsInHanded {} Tryz.checked os 3 .any (Rows.factMakesSpec.pre6 enc Tryz.prog Tryz.f3 Rows.factMakesRow.domain false) (Rows.factMakesSpec.post enc Tryz.prog Tryz.f3 false true false false) := by
  refine returnsInHanded_of_change_sized (C := Tryz.checked) own started (by kernel_rfl) Tryz.func3
    (ChangeSpec.witness6 (enc := enc) (C := Tryz.checked) false ⟨#[], #[.int .i64 0, .agg #[.int .i64 0, .bool false, .int .i64 0, .int .i64 0, .int .i64 0, .int .i64 0], .agg #[.int .i64 0, .bool false, .int .i64 0, .int .i64 0, .int .i64 0, .int .i64 0]], []⟩ 8 (by kernel_rfl) (by kernel_rfl) (by kernel_rfl) (by kernel_rfl)) ?_
  intro W base args ds gs before hval0 hW hcnd hsz0 _
  have hval : ∀ (j : Nat) t v, Tryz.f3.params[j]? = some t → args[j]? = some v → Value.okWide Tryz.prog W .any base t v := hval0
  have hW' := hW
  obtain ⟨p, q, hA0, hV, rfl, hfz, hnd⟩ := hW
  have hA : DataW.TrodAll enc Tryz.prog W 0 (fun _ => true) true Tryz.f3.params.toList args.toList ds p := hA0
  rw [Tryz.params3] at hA hval
  obtain ⟨v0, vs0, d0, ds0, p0, q0, hargs, rfl, rfl, h0, r0⟩ := trodAll_cons hA
  obtain ⟨v1, vs1, d1, ds1, p1, q1, rfl, rfl, rfl, h1, r1⟩ := trodAll_cons r0
  obtain ⟨v2, vs2, d2, ds2, p2, q2, rfl, rfl, rfl, h2, r2⟩ := trodAll_cons r1
  obtain ⟨rfl, rfl, rfl⟩ := trodAll_nil r2
  obtain rfl : args = #[v0, v1, v2] := by cases args; simp_all
  obtain ⟨rfl, rfl⟩ := trodVars_none hV
  obtain ⟨a0, rfl, rfl, rfl, w0⟩ := open_int Tryz.underlying3 (hval 0 3 v0 rfl rfl) h0
  have k1 := h1
  have lt1 : ∀ x ∈ p1, x.block < W.heap.size := by obtain ⟨m, hm⟩ := k1; exact DataW.trod_lt m _ _ _ hm
  obtain ⟨fuel1, hf1⟩ := h1
  have L1 := flat_27 hf1
  obtain ⟨_, _, e1_0, ⟨a1_0, rfl, w1_0⟩, ⟨_, _, e1_1, ⟨a1_1, rfl⟩, ⟨_, _, e1_2, ⟨a1_2, rfl, w1_2⟩, ⟨_, _, e1_3, ⟨a1_3, rfl, w1_3⟩, ⟨_, _, e1_4, ⟨a1_4, rfl, w1_4⟩, ⟨_, _, e1_5, ⟨a1_5, rfl, w1_5⟩, e1_6⟩⟩⟩⟩⟩⟩ := L1
  have E1 : v1.cells.toList = [.int .i64 a1_0, .bool a1_1, .int .i64 a1_2, .int .i64 a1_3, .int .i64 a1_4, .int .i64 a1_5] := by rw [e1_0, e1_1, e1_2, e1_3, e1_4, e1_5, e1_6]
  obtain ⟨cs1, rfl, hc1⟩ := agg_of (v := v1) (by rw [E1]; simp)
  obtain rfl : cs1 = #[.int .i64 a1_0, .bool a1_1, .int .i64 a1_2, .int .i64 a1_3, .int .i64 a1_4, .int .i64 a1_5] := by rw [hc1] at E1; exact Array.toList_inj.mp E1
  have k2 := h2
  have lt2 : ∀ x ∈ p2, x.block < W.heap.size := by obtain ⟨m, hm⟩ := k2; exact DataW.trod_lt m _ _ _ hm
  obtain ⟨fuel2, hf2⟩ := h2
  have L2 := flat_27 hf2
  obtain ⟨_, _, e2_0, ⟨a2_0, rfl, w2_0⟩, ⟨_, _, e2_1, ⟨a2_1, rfl⟩, ⟨_, _, e2_2, ⟨a2_2, rfl, w2_2⟩, ⟨_, _, e2_3, ⟨a2_3, rfl, w2_3⟩, ⟨_, _, e2_4, ⟨a2_4, rfl, w2_4⟩, ⟨_, _, e2_5, ⟨a2_5, rfl, w2_5⟩, e2_6⟩⟩⟩⟩⟩⟩ := L2
  have E2 : v2.cells.toList = [.int .i64 a2_0, .bool a2_1, .int .i64 a2_2, .int .i64 a2_3, .int .i64 a2_4, .int .i64 a2_5] := by rw [e2_0, e2_1, e2_2, e2_3, e2_4, e2_5, e2_6]
  obtain ⟨cs2, rfl, hc2⟩ := agg_of (v := v2) (by rw [E2]; simp)
  obtain rfl : cs2 = #[.int .i64 a2_0, .bool a2_1, .int .i64 a2_2, .int .i64 a2_3, .int .i64 a2_4, .int .i64 a2_5] := by rw [hc2] at E2; exact Array.toList_inj.mp E2
  clear hA0 hval0 hsz0
  have hP := FM.FactMakes a0 a1_0 a1_1 a1_2 a1_3 a1_4 a1_5 a2_0 a2_1 a2_2 a2_3 a2_4 a2_5 w0 w1_0 w1_2 w1_3 w1_4 w1_5 w2_0 w2_2 w2_3 w2_4 w2_5
  refine (FM.avermentlaw12_FactMakes.rets a0 a1_0 a1_1 a1_2 a1_3 a1_4 a1_5 a2_0 a2_1 a2_2 a2_3 a2_4 a2_5 true hP W).mono fun e W' ⟨he, bel0⟩ => ?_
  have bel := bel0
  subst he
  exact ⟨_, rfl, _, _, _, [], _, [], hW', trodAll_mk1 (shut_bool Tryz.underlying4 _), (trodAll_cons_mk (shut_int Tryz.underlying3 w0) (trodAll_cons_mk (Below.trod laidOut (by kernel_rfl) (of_decide_eq_true (by kernel_rfl)) k1 bel lt1) (trodAll_cons_mk (Below.trod laidOut (by kernel_rfl) (of_decide_eq_true (by kernel_rfl)) k2 bel lt2) trodAll_mk0))), rfl, bel.frame _, fun h => by cases h⟩
theorem over : Rows.factMakesRow.holds Tryz.pinned (OpenSpec.ofChange Rows.factMakesSpec) :=
  OpenClaim.holds_of_wide 3 Tryz.f3 rfl rfl rfl rfl rfl rfl rfl ⟨rfl, rfl, rfl, rfl, rfl⟩ rfl rfl rfl rfl rfl (by kernel_rfl) Tryz.func3 (by kernel_rfl)
    (of_decide_eq_true (by kernel_rfl)) (by unfold Func.isWrapper; first | (rw [if_pos (by decide +kernel)]; kernel_rfl) | (rw [if_neg (by decide +kernel)]; exact ⟨rfl, rfl⟩))
    (fun os started H enc _ => lifted os started H enc)
theorem proved : Rows.FactMakesSaid := over
#print axioms proved
end Go.Proofs.YtcgjfkaipbhpkaaGreat.factMakes
namespace Go.Proofs.YtcgjfkaipbhpkaaGreat
/-- The row, under a short name, for the claim. -/
theorem factMakes_holds : Rows.FactMakesSaid := factMakes.proved
end Go.Proofs.YtcgjfkaipbhpkaaGreat
