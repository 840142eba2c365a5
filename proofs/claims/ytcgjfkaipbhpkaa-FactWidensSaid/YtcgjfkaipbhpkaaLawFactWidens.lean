/- The row of FactWidens: for every input the law returns true. No condition. -/
import Derived.Test.YtcgjfkaipbhpkaaRows
import Derived.Test.YtcgjfkaipbhpkaaFW6
import Derived.Test.YtcgjfkaipbhpkaaPureFactWidens
import Derived.Test.YtcgjfkaipbhpkaaFlat2
import Derived.WalkKit
import Derived.ProofKit
import Derived.OpenShut
import Derived.ShutString
import Derived.ChangeOld
import Derived.Below
import Derived.Carry
import Derived.SizedLaws
namespace Go.Proofs.Ytcgjfkaipbhpkaa.factWidens
open Go.ChangeShapes Go.WideShapes Go.ChangeAt Go.RowKit Go.Proofs.Ytcgjfkaipbhpkaa.Flat Go.Proofs.YtcgjfkaipbhpkaaW
theorem own : ownKnob Try.prog.godebug = none := by kernel_rfl
theorem laidOut : laidOutB Try.prog = true := by kernel_rfl
theorem flat_3 : Flat Try.prog 3 [.i .i64] := flat_int Try.underlying3
theorem flat_4 : Flat Try.prog 4 [.b] := flat_bool Try.underlying4
theorem flat_2 : Flat Try.prog 2 [.i .i64] := flat_int Try.underlying2
set_option maxRecDepth 100000 in
theorem flat_23 : Flat Try.prog 23 [.b, .i .i64] := fun {_ _ _ _ _ _ _ cs _} h => by
  obtain ⟨xs, n, _, _, hl, hlen, hf⟩ := DataW.trod_struct Try.underlying23 h
  obtain ⟨y0, hy0⟩ := some_at hlen (show 0 < _ by decide) (hf 0 _ rfl)
  have g0 : Lvs [.b] ((cs.drop 0).take 1) := flat_4 hy0
  obtain ⟨y1, hy1⟩ := some_at hlen (show 1 < _ by decide) (hf 1 _ rfl)
  have g1 : Lvs [.i .i64] ((cs.drop 1).take 1) := flat_2 hy1
  have hl : cs.length = 2 := hl
  exact (Lvs.seg cs 0 1 g0 (Lvs.last cs 1 1 hl g1) : Lvs _ (cs.drop 0))
set_option maxRecDepth 100000 in
theorem flat_25 : Flat Try.prog 25 [.i .i64, .i .i64] := fun {_ _ _ _ _ _ _ cs _} h => by
  obtain ⟨xs, n, _, _, hl, hlen, hf⟩ := DataW.trod_struct Try.underlying25 h
  obtain ⟨y0, hy0⟩ := some_at hlen (show 0 < _ by decide) (hf 0 _ rfl)
  have g0 : Lvs [.i .i64] ((cs.drop 0).take 1) := flat_2 hy0
  obtain ⟨y1, hy1⟩ := some_at hlen (show 1 < _ by decide) (hf 1 _ rfl)
  have g1 : Lvs [.i .i64] ((cs.drop 1).take 1) := flat_2 hy1
  have hl : cs.length = 2 := hl
  exact (Lvs.seg cs 0 1 g0 (Lvs.last cs 1 1 hl g1) : Lvs _ (cs.drop 0))
set_option maxRecDepth 100000 in
theorem flat_27 : Flat Try.prog 27 [.i .i64, .b, .i .i64, .i .i64, .i .i64, .i .i64] := fun {_ _ _ _ _ _ _ cs _} h => by
  obtain ⟨xs, n, _, _, hl, hlen, hf⟩ := DataW.trod_struct Try.underlying27 h
  obtain ⟨y0, hy0⟩ := some_at hlen (show 0 < _ by decide) (hf 0 _ rfl)
  have g0 : Lvs [.i .i64] ((cs.drop 0).take 1) := flat_3 hy0
  obtain ⟨y1, hy1⟩ := some_at hlen (show 1 < _ by decide) (hf 1 _ rfl)
  have g1 : Lvs [.b, .i .i64] ((cs.drop 1).take 2) := flat_23 hy1
  obtain ⟨y2, hy2⟩ := some_at hlen (show 2 < _ by decide) (hf 2 _ rfl)
  have g2 : Lvs [.i .i64, .i .i64] ((cs.drop 3).take 2) := flat_25 hy2
  obtain ⟨y3, hy3⟩ := some_at hlen (show 3 < _ by decide) (hf 3 _ rfl)
  have g3 : Lvs [.i .i64] ((cs.drop 5).take 1) := flat_3 hy3
  have hl : cs.length = 6 := hl
  exact (Lvs.seg cs 0 1 g0 (Lvs.seg cs 1 2 g1 (Lvs.seg cs 3 2 g2 (Lvs.last cs 5 1 hl g3))) : Lvs _ (cs.drop 0))
set_option maxRecDepth 100000 in
theorem lifted (os : Os) (started : os.Started) (H : Type) (enc : TypeId × Value → H) :
    ReturnsInHanded {} Try.checked os 4 .any (Rows.factWidensSpec.pre6 enc Try.prog Try.f4 Rows.factWidensRow.domain false) (Rows.factWidensSpec.post enc Try.prog Try.f4 false true false false) := by
  refine returnsInHanded_of_change_sized (C := Try.checked) own started (by kernel_rfl) Try.func4
    (ChangeSpec.witness6 (enc := enc) (C := Try.checked) false ⟨#[], #[.agg #[.int .i64 0, .bool false, .int .i64 0, .int .i64 0, .int .i64 0, .int .i64 0], .slice none 0 0], []⟩ 8 (by kernel_rfl) (by kernel_rfl) (by kernel_rfl) (by kernel_rfl)) ?_
  intro W base args ds gs before hval0 hW hcnd hsz0 _
  have hval : ∀ (j : Nat) t v, Try.f4.params[j]? = some t → args[j]? = some v → Value.okWide Try.prog W .any base t v := hval0
  have hW' := hW
  obtain ⟨p, q, hA0, hV, rfl, hfz, hnd⟩ := hW
  have hA : DataW.TrodAll enc Try.prog W 0 (fun _ => true) true Try.f4.params.toList args.toList ds p := hA0
  rw [Try.params4] at hA hval
  obtain ⟨v0, vs0, d0, ds0, p0, q0, hargs, rfl, rfl, h0, r0⟩ := trodAll_cons hA
  obtain ⟨v1, vs1, d1, ds1, p1, q1, rfl, rfl, rfl, h1, r1⟩ := trodAll_cons r0
  obtain ⟨rfl, rfl, rfl⟩ := trodAll_nil r1
  obtain rfl : args = #[v0, v1] := by cases args; simp_all
  obtain ⟨rfl, rfl⟩ := trodVars_none hV
  have k0 := h0
  have lt0 : ∀ x ∈ p0, x.block < W.heap.size := by obtain ⟨m, hm⟩ := k0; exact DataW.trod_lt m _ _ _ hm
  obtain ⟨fuel0, hf0⟩ := h0
  have L0 := flat_27 hf0
  obtain ⟨_, _, e0_0, ⟨a0_0, rfl, w0_0⟩, ⟨_, _, e0_1, ⟨a0_1, rfl⟩, ⟨_, _, e0_2, ⟨a0_2, rfl, w0_2⟩, ⟨_, _, e0_3, ⟨a0_3, rfl, w0_3⟩, ⟨_, _, e0_4, ⟨a0_4, rfl, w0_4⟩, ⟨_, _, e0_5, ⟨a0_5, rfl, w0_5⟩, e0_6⟩⟩⟩⟩⟩⟩ := L0
  have E0 : v0.cells.toList = [.int .i64 a0_0, .bool a0_1, .int .i64 a0_2, .int .i64 a0_3, .int .i64 a0_4, .int .i64 a0_5] := by rw [e0_0, e0_1, e0_2, e0_3, e0_4, e0_5, e0_6]
  obtain ⟨cs0, rfl, hc0⟩ := agg_of (v := v0) (by rw [E0]; simp)
  obtain rfl : cs0 = #[.int .i64 a0_0, .bool a0_1, .int .i64 a0_2, .int .i64 a0_3, .int .i64 a0_4, .int .i64 a0_5] := by rw [hc0] at E0; exact Array.toList_inj.mp E0
  obtain ⟨A1, len1, c1, rfl⟩ := okWide_slice Try.underlying40 (hval 1 40 v1 rfl rfl)
  have k1 := h1
  have lt1 : ∀ x ∈ p1, x.block < W.heap.size := by obtain ⟨m, hm⟩ := k1; exact DataW.trod_lt m _ _ _ hm
  obtain ⟨l1, hl1, hC1, hc1, hw1⟩ : ∃ xs : List FW.S27, xs.length = len1 ∧ PrintWords.Kd.C FW.k27 W A1 len1 xs ∧ len1 ≤ c1 ∧ ∀ x ∈ xs, (Lit.int .i64 x.f0).wf = true ∧ (Lit.int .i64 x.f1.f1).wf = true ∧ (Lit.int .i64 x.f2.f0).wf = true ∧ (Lit.int .i64 x.f2.f1).wf = true ∧ (Lit.int .i64 x.f3).wf = true := by
    obtain ⟨fuel, hf⟩ := h1
    rcases slice_flat Try.underlying40 (s := 6) (by kernel_rfl) flat_27 (by simpa [Value.cells] using hf) with ⟨rfl, rfl, rfl⟩ | ⟨a, rfl, h1, h2, h3⟩
    · exact ⟨[], rfl, ⟨rfl, Nat.zero_le _, fun h => absurd h (Nat.lt_irrefl _)⟩, Nat.le_refl _, by simp⟩
    · obtain ⟨xs, hx, hxs⟩ := pick (fun i (x : FW.S27) => ((Lit.int .i64 x.f0).wf = true ∧ (Lit.int .i64 x.f1.f1).wf = true ∧ (Lit.int .i64 x.f2.f0).wf = true ∧ (Lit.int .i64 x.f2.f1).wf = true ∧ (Lit.int .i64 x.f3).wf = true) ∧ ∃ cs : List Value, cs = [.int .i64 x.f0, .bool x.f1.f0, .int .i64 x.f1.f1, .int .i64 x.f2.f0, .int .i64 x.f2.f1, .int .i64 x.f3] ∧ ∀ j u, cs[j]? = some u → W.cell? (a.add (i * 6 + j)) = some u) _ (fun i hi => by
        obtain ⟨cs, hL, hcell⟩ := h3 i hi
        obtain ⟨_, _, e0, ⟨b0, rfl, w0⟩, ⟨_, _, e1, ⟨b1, rfl⟩, ⟨_, _, e2, ⟨b2, rfl, w2⟩, ⟨_, _, e3, ⟨b3, rfl, w3⟩, ⟨_, _, e4, ⟨b4, rfl, w4⟩, ⟨_, _, e5, ⟨b5, rfl, w5⟩, e6⟩⟩⟩⟩⟩⟩ := hL
        exact ⟨⟨b0, ⟨b1, b2⟩, ⟨b3, b4⟩, b5⟩, ⟨w0, w2, w3, w4, w5⟩, cs, by rw [e0, e1, e2, e3, e4, e5, e6], hcell⟩)
      refine ⟨xs, hx, ⟨hx, h2, fun _ => ⟨a, rfl, fun j p hj => ?_⟩⟩, h1, fun x hx' => ?_⟩
      · obtain ⟨-, cs, rfl, hc⟩ := hxs j p hj
        exact ⟨_, rfl, FW.k27_mk _ _, hc⟩
      · obtain ⟨j, hj⟩ := List.getElem?_of_mem hx'
        exact (hxs j x hj).1
  subst hl1
  clear hA0 hval0 hsz0
  obtain ⟨k, hP⟩ := Pure.FactWidens a0_0 a0_1 a0_2 a0_3 a0_4 a0_5 l1 w0_0 w0_2 w0_3 w0_4 w0_5 hw1
  refine (FW.avermentlaw12_FactWidens.calls k a0_0 a0_1 a0_2 a0_3 a0_4 a0_5 A1 c1 l1 true W ⟨rfl⟩ hC1 hc1 hP).mono fun e W' ⟨he, bel0⟩ => ?_
  have bel := bel0
  subst he
  exact ⟨_, rfl, _, _, _, [], _, [], hW', trodAll_mk1 (shut_bool Try.underlying4 _), (trodAll_cons_mk (Below.trod laidOut (by kernel_rfl) (of_decide_eq_true (by kernel_rfl)) k0 bel lt0) (trodAll_cons_mk (Below.trod laidOut (by kernel_rfl) (of_decide_eq_true (by kernel_rfl)) k1 bel lt1) trodAll_mk0)), rfl, bel.frame _, fun h => by cases h⟩
theorem over : Rows.factWidensRow.holds Try.pinned (OpenSpec.ofChange Rows.factWidensSpec) :=
  OpenClaim.holds_of_wide 4 Try.f4 rfl rfl rfl rfl rfl rfl rfl ⟨rfl, rfl, rfl, rfl, rfl⟩ rfl rfl rfl rfl rfl (by kernel_rfl) Try.func4 (by kernel_rfl)
    (of_decide_eq_true (by kernel_rfl)) (by unfold Func.isWrapper; first | (rw [if_pos (by decide +kernel)]; kernel_rfl) | (rw [if_neg (by decide +kernel)]; exact ⟨rfl, rfl⟩))
    (fun os started H enc _ => lifted os started H enc)
theorem proved : Rows.FactWidensSaid := over
#print axioms proved
end Go.Proofs.Ytcgjfkaipbhpkaa.factWidens
namespace Go.Proofs.Ytcgjfkaipbhpkaa
/-- The row, under a short name, for the claim. -/
theorem factWidens_holds : Rows.FactWidensSaid := factWidens.proved
end Go.Proofs.Ytcgjfkaipbhpkaa
