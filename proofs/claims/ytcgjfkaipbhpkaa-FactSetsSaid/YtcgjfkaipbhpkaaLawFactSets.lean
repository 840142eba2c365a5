/- The row of FactSets: for every input the law returns true. No condition. -/
import Derived.Test.YtcgjfkaipbhpkaaRows
import Derived.Test.YtcgjfkaipbhpkaaFqS
import Derived.Test.YtcgjfkaipbhpkaaFlat
import Derived.WalkKit
import Derived.ProofKit
import Derived.OpenShut
import Derived.ShutString
import Derived.ChangeOld
import Derived.Below
import Derived.Carry
import Derived.SizedLaws
namespace Go.Proofs.Ytcgjfkaipbhpkaa.factSets
open Go.ChangeShapes Go.WideShapes Go.ChangeAt Go.RowKit Go.Proofs.Ytcgjfkaipbhpkaa.Flat
theorem own : ownKnob Try.prog.godebug = none := by kernel_rfl
theorem laidOut : laidOutB Try.prog = true := by kernel_rfl
theorem flat_3 : Flat Try.prog 3 [.i .i64] := flat_int Try.underlying3
theorem flat_4 : Flat Try.prog 4 [.b] := flat_bool Try.underlying4
theorem flat_2 : Flat Try.prog 2 [.i .i64] := flat_int Try.underlying2
set_option maxRecDepth 100000 in
theorem flat_23 : Flat Try.prog 23 [.b, .i .i64] := fun {_ _ _ _ _ _ _ cs _} h => by
  obtain ⟨xs, n, _, _, hl, hlen, hf⟩ := DataW.trod_struct Try.underlying23 h
  obtain ⟨y0, hy0⟩ := some_at hlen (show 0 < _ by decide) (hf 0 _ rfl)
  have g0 : Lvs [.b] ((cs.drop 0).take 1) := flat_4 hy0
  obtain ⟨y1, hy1⟩ := some_at hlen (show 1 < _ by decide) (hf 1 _ rfl)
  have g1 : Lvs [.i .i64] ((cs.drop 1).take 1) := flat_2 hy1
  have hl : cs.length = 2 := hl
  exact (Lvs.seg cs 0 1 g0 (Lvs.last cs 1 1 hl g1) : Lvs _ (cs.drop 0))
set_option maxRecDepth 100000 in
theorem flat_25 : Flat Try.prog 25 [.i .i64, .i .i64] := fun {_ _ _ _ _ _ _ cs _} h => by
  obtain ⟨xs, n, _, _, hl, hlen, hf⟩ := DataW.trod_struct Try.underlying25 h
  obtain ⟨y0, hy0⟩ := some_at hlen (show 0 < _ by decide) (hf 0 _ rfl)
  have g0 : Lvs [.i .i64] ((cs.drop 0).take 1) := flat_2 hy0
  obtain ⟨y1, hy1⟩ := some_at hlen (show 1 < _ by decide) (hf 1 _ rfl)
  have g1 : Lvs [.i .i64] ((cs.drop 1).take 1) := flat_2 hy1
  have hl : cs.length = 2 := hl
  exact (Lvs.seg cs 0 1 g0 (Lvs.last cs 1 1 hl g1) : Lvs _ (cs.drop 0))
set_option maxRecDepth 100000 in
theorem flat_27 : Flat Try.prog 27 [.i .i64, .b, .i .i64, .i .i64, .i .i64, .i .i64] := fun {_ _ _ _ _ _ _ cs _} h => by
  obtain ⟨xs, n, _, _, hl, hlen, hf⟩ := DataW.trod_struct Try.underlying27 h
  obtain ⟨y0, hy0⟩ := some_at hlen (show 0 < _ by decide) (hf 0 _ rfl)
  have g0 : Lvs [.i .i64] ((cs.drop 0).take 1) := flat_3 hy0
  obtain ⟨y1, hy1⟩ := some_at hlen (show 1 < _ by decide) (hf 1 _ rfl)
  have g1 : Lvs [.b, .i .i64] ((cs.drop 1).take 2) := flat_23 hy1
  obtain ⟨y2, hy2⟩ := some_at hlen (show 2 < _ by decide) (hf 2 _ rfl)
  have g2 : Lvs [.i .i64, .i .i64] ((cs.drop 3).take 2) := flat_25 hy2
  obtain ⟨y3, hy3⟩ := some_at hlen (show 3 < _ by decide) (hf 3 _ rfl)
  have g3 : Lvs [.i .i64] ((cs.drop 5).take 1) := flat_3 hy3
  have hl : cs.length = 6 := hl
  exact (Lvs.seg cs 0 1 g0 (Lvs.seg cs 1 2 g1 (Lvs.seg cs 3 2 g2 (Lvs.last cs 5 1 hl g3))) : Lvs _ (cs.drop 0))
set_option maxRecDepth 100000 in
theorem lifted (os : Os) (started : os.Started) (H : Type) (enc : TypeId × Value → H) :
    ReturnsInHanded {} Try.checked os 5 .any (Rows.factSetsSpec.pre6 enc Try.prog Try.f5 Rows.factSetsRow.domain false) (Rows.factSetsSpec.post enc Try.prog Try.f5 false true false false) := by
  refine returnsInHanded_of_change_sized (C := Try.checked) own started (by kernel_rfl) Try.func5
    (ChangeSpec.witness6 (enc := enc) (C := Try.checked) false ⟨#[], #[.agg #[.int .i64 0, .bool false, .int .i64 0, .int .i64 0, .int .i64 0, .int .i64 0], .agg #[.int .i64 0, .bool false, .int .i64 0, .int .i64 0, .int .i64 0, .int .i64 0], .int .i64 0], []⟩ 8 (by kernel_rfl) (by kernel_rfl) (by kernel_rfl) (by kernel_rfl)) ?_
  intro W base args ds gs before hval0 hW hcnd hsz0 _
  have hval : ∀ (j : Nat) t v, Try.f5.params[j]? = some t → args[j]? = some v → Value.okWide Try.prog W .any base t v := hval0
  have hW' := hW
  obtain ⟨p, q, hA0, hV, rfl, hfz, hnd⟩ := hW
  have hA : DataW.TrodAll enc Try.prog W 0 (fun _ => true) true Try.f5.params.toList args.toList ds p := hA0
  rw [Try.params5] at hA hval
  obtain ⟨v0, vs0, d0, ds0, p0, q0, hargs, rfl, rfl, h0, r0⟩ := trodAll_cons hA
  obtain ⟨v1, vs1, d1, ds1, p1, q1, rfl, rfl, rfl, h1, r1⟩ := trodAll_cons r0
  obtain ⟨v2, vs2, d2, ds2, p2, q2, rfl, rfl, rfl, h2, r2⟩ := trodAll_cons r1
  obtain ⟨rfl, rfl, rfl⟩ := trodAll_nil r2
  obtain rfl : args = #[v0, v1, v2] := by cases args; simp_all
  obtain ⟨rfl, rfl⟩ := trodVars_none hV
  have k0 := h0
  have lt0 : ∀ x ∈ p0, x.block < W.heap.size := by obtain ⟨m, hm⟩ := k0; exact DataW.trod_lt m _ _ _ hm
  obtain ⟨fuel0, hf0⟩ := h0
  have L0 := flat_27 hf0
  obtain ⟨_, _, e0_0, ⟨a0_0, rfl, w0_0⟩, ⟨_, _, e0_1, ⟨a0_1, rfl⟩, ⟨_, _, e0_2, ⟨a0_2, rfl, w0_2⟩, ⟨_, _, e0_3, ⟨a0_3, rfl, w0_3⟩, ⟨_, _, e0_4, ⟨a0_4, rfl, w0_4⟩, ⟨_, _, e0_5, ⟨a0_5, rfl, w0_5⟩, e0_6⟩⟩⟩⟩⟩⟩ := L0
  have E0 : v0.cells.toList = [.int .i64 a0_0, .bool a0_1, .int .i64 a0_2, .int .i64 a0_3, .int .i64 a0_4, .int .i64 a0_5] := by rw [e0_0, e0_1, e0_2, e0_3, e0_4, e0_5, e0_6]
  obtain ⟨cs0, rfl, hc0⟩ := agg_of (v := v0) (by rw [E0]; simp)
  obtain rfl : cs0 = #[.int .i64 a0_0, .bool a0_1, .int .i64 a0_2, .int .i64 a0_3, .int .i64 a0_4, .int .i64 a0_5] := by rw [hc0] at E0; exact Array.toList_inj.mp E0
  have k1 := h1
  have lt1 : ∀ x ∈ p1, x.block < W.heap.size := by obtain ⟨m, hm⟩ := k1; exact DataW.trod_lt m _ _ _ hm
  obtain ⟨fuel1, hf1⟩ := h1
  have L1 := flat_27 hf1
  obtain ⟨_, _, e1_0, ⟨a1_0, rfl, w1_0⟩, ⟨_, _, e1_1, ⟨a1_1, rfl⟩, ⟨_, _, e1_2, ⟨a1_2, rfl, w1_2⟩, ⟨_, _, e1_3, ⟨a1_3, rfl, w1_3⟩, ⟨_, _, e1_4, ⟨a1_4, rfl, w1_4⟩, ⟨_, _, e1_5, ⟨a1_5, rfl, w1_5⟩, e1_6⟩⟩⟩⟩⟩⟩ := L1
  have E1 : v1.cells.toList = [.int .i64 a1_0, .bool a1_1, .int .i64 a1_2, .int .i64 a1_3, .int .i64 a1_4, .int .i64 a1_5] := by rw [e1_0, e1_1, e1_2, e1_3, e1_4, e1_5, e1_6]
  obtain ⟨cs1, rfl, hc1⟩ := agg_of (v := v1) (by rw [E1]; simp)
  obtain rfl : cs1 = #[.int .i64 a1_0, .bool a1_1, .int .i64 a1_2, .int .i64 a1_3, .int .i64 a1_4, .int .i64 a1_5] := by rw [hc1] at E1; exact Array.toList_inj.mp E1
  obtain ⟨a2, rfl, rfl, rfl, w2⟩ := open_int Try.underlying2 (hval 2 2 v2 rfl rfl) h2
  clear hA0 hval0 hsz0
  have hP := FS.FactSets a0_0 a0_1 a0_2 a0_3 a0_4 a0_5 a1_0 a1_1 a1_2 a1_3 a1_4 a1_5 a2
  refine (FS.avermentlaw12_FactSets.rets a0_0 a0_1 a0_2 a0_3 a0_4 a0_5 a1_0 a1_1 a1_2 a1_3 a1_4 a1_5 a2 true hP W).mono fun e W' ⟨he, bel0⟩ => ?_
  have bel := bel0
  subst he
  exact ⟨_, rfl, _, _, _, [], _, [], hW', trodAll_mk1 (shut_bool Try.underlying4 _), (trodAll_cons_mk (Below.trod laidOut (by kernel_rfl) (of_decide_eq_true (by kernel_rfl)) k0 bel lt0) (trodAll_cons_mk (Below.trod laidOut (by kernel_rfl) (of_decide_eq_true (by kernel_rfl)) k1 bel lt1) (trodAll_cons_mk (shut_int Try.underlying2 w2) trodAll_mk0))), rfl, bel.frame _, fun h => by cases h⟩
theorem over : Rows.factSetsRow.holds Try.pinned (OpenSpec.ofChange Rows.factSetsSpec) :=
  OpenClaim.holds_of_wide 5 Try.f5 rfl rfl rfl rfl rfl rfl rfl ⟨rfl, rfl, rfl, rfl, rfl⟩ rfl rfl rfl rfl rfl (by kernel_rfl) Try.func5 (by kernel_rfl)
    (of_decide_eq_true (by kernel_rfl)) (by unfold Func.isWrapper; first | (rw [if_pos (by decide +kernel)]; kernel_rfl) | (rw [if_neg (by decide +kernel)]; exact ⟨rfl, rfl⟩))
    (fun os started H enc _ => lifted os started H enc)
theorem proved : Rows.FactSetsSaid := over
#print axioms proved
end Go.Proofs.Ytcgjfkaipbhpkaa.factSets
namespace Go.Proofs.Ytcgjfkaipbhpkaa
/-- The row, under a short name, for the claim. -/
theorem factSets_holds : Rows.FactSetsSaid := factSets.proved
end Go.Proofs.Ytcgjfkaipbhpkaa
