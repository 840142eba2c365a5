/- The row of AvermentTrails: for every input the law returns true. No condition. -/
import Derived.Test.YtdjkdmjdcdljmaaGreatRows
import Derived.Test.YtdjkdmjdcdljmaaGreatTm
import Derived.Test.YtdjkdmjdcdljmaaGreatOp

import Derived.WalkKit
import Derived.ProofKit
import Derived.OpenShut
import Derived.ShutString
import Derived.ChangeOld
import Derived.Below
import Derived.Carry
import Derived.SizedLaws
namespace Go.Proofs.YtdjkdmjdcdljmaaGreat.avermentTrails
open Go.ChangeShapes Go.WideShapes Go.ChangeAt Go.RowKit Go.Proofs.YtdjkdmjdcdljmaaGreatX
theorem own : ownKnob Tryz.prog.godebug = none := by kernel_rfl
theorem laidOut : laidOutB Tryz.prog = true := by kernel_rfl
abbrev TJob : Ty := .pair (.pair (.slice AT.yI) (.pair (.slice AT.yFunc) (.slice AT.yImport))) (.pair AT.yI (.pair (.slice AT.yI) (.slice AT.yI)))
theorem chk : tyChk Tryz.prog 12 28 TJob = true := by kernel_rfl
theorem i64_of {n : Int} (h : (Lit.int .i64 n).wf = true) : Sr.fit64 n := by
  simp [Lit.wf, IntKind.min, IntKind.max, IntKind.bits, IntKind.signed] at h
  unfold Sr.fit64
  omega
theorem agg_of {v : Value} (h : 2 ≤ v.cells.toList.length) : ∃ cs : Array Value, v = .agg cs ∧ v.cells.toList = cs.toList := by
  cases v <;> first | exact ⟨_, rfl, rfl⟩ | (simp [Value.cells] at h)
def fresh : Num := fun _ _ => .fresh
theorem fresh_no {r : Nat} : ¬ fresh.own r := fun ⟨_, _, s, h, _⟩ => by cases h
theorem fresh_inv (w : World) : Inv fresh (oldZ w) w := ⟨(fun _ _ _ _ _ ⟨_, h, _⟩ => by cases h), (fun r h => absurd h fresh_no), (fun r h => h), (fun r h => absurd h fresh_no)⟩
theorem chk1 : tyChk Tryz.prog 12 57 (.slice AT.yValue) = true := by kernel_rfl
set_option maxRecDepth 100000 in
theorem lifted (os : Os) (started : os.Started) (H : Type) (enc : TypeId × Value → H) :
    ReturnsInHanded {} Tryz.checked os 4 .any (Rows.avermentTrailsSpec.pre6 enc Tryz.prog Tryz.f4 Rows.avermentTrailsRow.domain false) (Rows.avermentTrailsSpec.post enc Tryz.prog Tryz.f4 false true false false) := by
  refine returnsInHanded_of_change_sized (C := Tryz.checked) own started (by kernel_rfl) Tryz.func4
    (ChangeSpec.witness6 (enc := enc) (C := Tryz.checked) false ⟨#[], #[.agg #[.slice none 0 0, .slice none 0 0, .slice none 0 0, .int .i64 0, .slice none 0 0, .slice none 0 0], .slice none 0 0], []⟩ 8 (by kernel_rfl) (by kernel_rfl) (by kernel_rfl) (by kernel_rfl)) ?_
  intro W base args ds gs before hval0 hW hcnd hsz0 _
  have hW' := hW
  obtain ⟨p, q, hA0, hV, rfl, hfz, hnd⟩ := hW
  have hA : DataW.TrodAll enc Tryz.prog W 0 (fun _ => true) true Tryz.f4.params.toList args.toList ds p := hA0
  rw [show Tryz.f4.params.toList = [28, 57] from rfl] at hA
  obtain ⟨v0, vs0, d0, ds0, p0, q0, hargs, rfl, rfl, h0, r0⟩ := trodAll_cons hA
  obtain ⟨v1, vs1, d1, ds1, p1, q1, hargs1, rfl, rfl, h1, r1⟩ := trodAll_cons r0
  obtain ⟨rfl, rfl, rfl⟩ := trodAll_nil r1
  subst hargs1
  obtain rfl : args = #[v0, v1] := by cases args; simp_all
  obtain ⟨rfl, rfl⟩ := trodVars_none hV
  have hv1 : Value.okWide _ _ _ _ 57 v1 := hval0 1 57 v1 rfl rfl
  obtain ⟨sa, sl, sc, rfl⟩ := okWide_slice Tryz.underlying57 hv1
  have k0 := h0
  have k1 := h1
  have lt0 : ∀ x ∈ p0, x.block < W.heap.size := by obtain ⟨m, hm⟩ := k0; exact DataW.trod_lt m _ _ _ hm
  have lt1 : ∀ x ∈ p1, x.block < W.heap.size := by obtain ⟨m, hm⟩ := k1; exact DataW.trod_lt m _ _ _ hm
  obtain ⟨fuel0, hf0⟩ := h0
  obtain ⟨fuel1, hf1⟩ := h1
  obtain ⟨d, hd, hwd⟩ := trod_dv (M := AT.M) 12 28 TJob chk fuel0 _ _ hf0
  obtain ⟨e, he1, hwe⟩ := trod_dv (M := AT.M) 12 57 (.slice AT.yValue) chk1 fuel1 _ _ hf1
  have hrv := DV.rvs (σ := fresh) [] hd
  have hrv1 := DV.rvs (σ := fresh) [] he1
  have hlen := hrv.length
  obtain ⟨cs0, rfl, hc0⟩ := agg_of (v := v0) (by rw [← hlen]; exact (show 2 ≤ 6 by decide))
  rw [hc0] at hrv
  have hw : AT.wideT d.1.1 d.1.2.1 := ⟨fun c hc => i64_of (hwd.1.1 c hc), fun f hf b hb x hx => i64_of (((hwd.1.2.1 f hf).2.2.2 b hb).1 x hx).2.2.2.2.1⟩
  have hP := AT.trails_law (K := 2000) (Nat.le_refl _) d.1.1 d.1.2.1 d.1.2.2 d.2.1 d.2.2.1 d.2.2.2 e hw (fun v hv => i64_of (hwd.2.2.1 v hv)) (fun v hv => i64_of (hwd.2.2.2 v hv)) (fun v hv => ⟨i64_of (hwe v hv).2.2.1.1, i64_of (hwe v hv).2.2.1.2⟩)
  have rets := AT.avermenttop_AvermentTrails.rets 2000 (((d.1.1, d.1.2.1, d.1.2.2, d.2.1, d.2.2.1, d.2.2.2), e), ()) (true, ()) (by
    unfold withCv AT.avermenttop_AvermentTrails.F
    rw [show AT.avermenttop_AvermentTrails.f 2000 d.1.1 d.1.2.1 d.1.2.2 d.2.1 d.2.2.1 d.2.2.2 e = some true from hP]
    rfl)
  refine (rets fresh (oldZ W) W [.agg cs0, .slice sa sl sc] (fresh_inv W) ⟨_, _, rfl, ⟨cs0, rfl, rfl, hrv⟩, hrv1⟩ (fun F he hF => by cases hF) (fun _ _ _ => rfl)).mono fun e W' ⟨us, σ', Z', he, hus, _, _, _, frm⟩ => ?_
  have bel : Below W.heap.size W W' := ⟨frm.os, frm.tape, frm.output, frm.size, fun k hk => frm.block k hk fresh_no⟩
  obtain ⟨u, m, rfl, hu, hm⟩ := hus.cons
  have hm0 : m = [] := hm
  subst hm0
  obtain ⟨_, rfl⟩ : leafB (.bool true) = true ∧ u = .bool true := hu
  subst he
  have kk0 := Below.trod laidOut (by kernel_rfl) (of_decide_eq_true (by kernel_rfl)) k0 bel lt0
  have kk1 := Below.trod laidOut (by kernel_rfl) (of_decide_eq_true (by kernel_rfl)) k1 bel lt1
  exact ⟨_, rfl, _, _, _, [], _, [], hW', trodAll_mk1 (shut_bool Tryz.underlying4 _), trodAll_cons_mk kk0 (trodAll_cons_mk kk1 trodAll_mk0), rfl, bel.frame _, fun h => by cases h⟩
theorem over : Rows.avermentTrailsRow.holds Tryz.pinned (OpenSpec.ofChange Rows.avermentTrailsSpec) :=
  OpenClaim.holds_of_wide 4 Tryz.f4 rfl rfl rfl rfl rfl rfl rfl ⟨rfl, rfl, rfl, rfl, rfl⟩ rfl rfl rfl rfl rfl (by kernel_rfl) Tryz.func4 (by kernel_rfl)
    (of_decide_eq_true (by kernel_rfl)) (by unfold Func.isWrapper; first | (rw [if_pos (by decide +kernel)]; kernel_rfl) | (rw [if_neg (by decide +kernel)]; exact ⟨rfl, rfl⟩))
    (fun os started H enc _ => lifted os started H enc)
theorem proved : Rows.AvermentTrailsSaid := over
#print axioms proved
end Go.Proofs.YtdjkdmjdcdljmaaGreat.avermentTrails
namespace Go.Proofs.YtdjkdmjdcdljmaaGreat
/-- The row, under a short name, for the claim. -/
theorem avermentTrails_holds : Rows.AvermentTrailsSaid := avermentTrails.proved
end Go.Proofs.YtdjkdmjdcdljmaaGreat
