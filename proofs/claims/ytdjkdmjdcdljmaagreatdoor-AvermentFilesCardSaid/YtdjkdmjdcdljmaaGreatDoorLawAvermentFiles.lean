/- The card of AvermentFiles: for every input the law returns true. Condition: errors.errorType reads as the text of the program lays it (the card ties it). -/
import Derived.Test.YtdjkdmjdcdljmaaGreatDoorRows
import Derived.Test.YtdjkdmjdcdljmaaGreatDoorCards
import Derived.Test.YtdjkdmjdcdljmaaGreatDoorTie
import Derived.Test.YtdjkdmjdcdljmaaGreatDoorFactFiles
import Derived.Test.YtdjkdmjdcdljmaaGreatDoorPG
import Derived.Test.YtdjkdmjdcdljmaaGreatDoorPH
import Derived.WalkKit
import Derived.ProofKit
import Derived.OpenShut
import Derived.ShutString
import Derived.ChangeOld
import Derived.Below
import Derived.Carry
import Derived.SizedLaws
import Derived.LaidMore
import Derived.LaidHandle
import Derived.LaidLaws
import Derived.SevenTiedAt
namespace Go.Proofs.YtdjkdmjdcdljmaaGreatDoor.z2b
open Go.ChangeShapes Go.WideShapes Go.ChangeAt Go.RowKit Go.Proofs.q0a
theorem own : ownKnob Tryz.prog.godebug = none := by kernel_rfl
theorem laidOut : laidOutB Tryz.prog = true := by kernel_rfl
theorem chk0 : j0u Tryz.prog 16 49 AF.yModule = true := by kernel_rfl
theorem chk1 : j0u Tryz.prog 16 54 AF.yTable = true := by kernel_rfl
theorem z9h {n : Int} (h : (Lit.int .i64 n).wf = true) : AF.i64 n := by
  simp [Lit.wf, IntKind.min, IntKind.max, IntKind.bits, IntKind.signed] at h
  unfold AF.i64
  omega
theorem agg_of {v : Value} (h : 2 ≤ v.cells.toList.length) : ∃ cs : Array Value, v = .agg cs ∧ v.cells.toList = cs.toList := by
  cases v <;> first | exact ⟨_, rfl, rfl⟩ | (simp [Value.cells] at h)
def fresh : Num := fun _ _ => .fresh
theorem z8e {r : Nat} : ¬ fresh.own r := fun ⟨_, _, s, h, _⟩ => by cases h
theorem fresh_inv (w : World) : Inv fresh (oldZ w) w := ⟨(fun _ _ _ _ _ ⟨_, h, _⟩ => by cases h), (fun r h => absurd h z8e), (fun r h => h), (fun r h => absurd h z8e)⟩
theorem z33 {v : AF.q0d} (h : WfD AF.q02 v) : AF.Wv v := ⟨z9h h.2.1.2, z9h h.2.2.1.1, z9h h.2.2.1.2⟩
theorem j2z {s : AF.LSum} (h : WfD AF.ySum s) : AF.Ws s := ⟨fun v hv => z33 (h.2.1 v hv), z33 h.2.2.2⟩
theorem func_wide {x : AF.q0l} (h : WfD AF.q1r x) : AF.Wf x := ⟨j2z h.1, fun b hb v hv => z33 ((h.2 b hb).1.2.1 v hv)⟩
abbrev laid : List (String × DataW Unit) := [("errors.errorType", Rows.laid_errors_errorType)]
noncomputable def z87 (os : Os) : World :=
  let w0 := World.holding Tryz.prog os ⟨#[], #[], []⟩
  { w0 with heap := w0.heap.modify 0 fun
      | .cells _ t frozen => .cells #[.iface 338 (.agg #[.pointer (some ⟨1, 34, none⟩)])] t frozen
      | o => o }
theorem z7r (os : Os) (args : Array Value) : laidMetH Tryz.prog laid ((z87 os).forCall (fun _ _ => 0) ⟨#[], args, []⟩).memory :=
  laidMetH_of_parts (laidMet_nil _ _) (by kernel_rfl)
set_option maxRecDepth 100000 in
theorem lifted (os : Os) (started : os.Started) (H : Type) (enc : TypeId × Value → H) :
    ReturnsInHanded {} Tryz.checked os 5 .any (fun w args => (Rows.avermentFilesSpec.pre enc Tryz.prog Tryz.f5 [] false w args ∧ laidMetH Tryz.prog laid w) ∧ sizedMet enc Tryz.prog Tryz.f5 (OpenSpec.ofChange Rows.avermentFilesSpec) false w args)
      (Rows.avermentFilesSpec.post enc Tryz.prog Tryz.f5 false true false false) := by
  refine returnsInHanded_of_change_and (C := Tryz.checked) (X := fun w _ => laidMetH Tryz.prog laid w) (fun _ _ _ hh h => h.of_heap hh) own started (by kernel_rfl) Tryz.func5
    (ChangeSpec.witness_at (enc := enc) (C := Tryz.checked) (os := os) (X := fun w _ => laidMetH Tryz.prog laid w) false (z87 os) #[.agg #[.slice none 0 0, .slice none 0 0, .slice none 0 0], .agg #[.slice none 0 0, .slice none 0 0, .slice none 0 0]] 8 rfl (by kernel_rfl) (by kernel_rfl) (by kernel_rfl) (by kernel_rfl) (by kernel_rfl) (z7r os _)) ?_
  intro W base args ds gs before hval0 hW _ _ hL _
  have hW' := hW
  obtain ⟨p, q, hA0, hV, rfl, hfz, hnd⟩ := hW
  have hA : DataW.TrodAll enc Tryz.prog W 0 (fun _ => true) true Tryz.f5.params.toList args.toList ds p := hA0
  rw [show Tryz.f5.params.toList = [49, 54] from rfl] at hA
  obtain ⟨v0, vs0, d0, ds0, p0, q0, hargs, rfl, rfl, h0, r0⟩ := trodAll_cons hA
  obtain ⟨v1, vs1, d1, ds1, p1, q1, hargs1, rfl, rfl, h1, r1⟩ := trodAll_cons r0
  obtain ⟨rfl, rfl, rfl⟩ := trodAll_nil r1
  subst hargs1
  obtain rfl : args = #[v0, v1] := by cases args; simp_all
  obtain ⟨rfl, rfl⟩ := trodVars_none hV
  have k0 := h0
  have k1 := h1
  have lt0 : ∀ x ∈ p0, x.block < W.heap.size := by obtain ⟨m, hm⟩ := k0; exact DataW.trod_lt m _ _ _ hm
  have lt1 : ∀ x ∈ p1, x.block < W.heap.size := by obtain ⟨m, hm⟩ := k1; exact DataW.trod_lt m _ _ _ hm
  obtain ⟨fuel0, hf0⟩ := h0
  obtain ⟨fuel1, hf1⟩ := h1
  obtain ⟨d, hd, hwd⟩ := z7t (M := AF.M) 16 49 AF.yModule chk0 fuel0 _ _ hf0
  obtain ⟨e, he1, hwe⟩ := z7t (M := AF.M) 16 54 AF.yTable chk1 fuel1 _ _ hf1
  have hrv := DV.rvs (σ := fresh) [] hd
  have hrv1 := DV.rvs (σ := fresh) [] he1
  have hlen := hrv.length
  have hlen1 := hrv1.length
  obtain ⟨cs0, rfl, hc0⟩ := agg_of (v := v0) (by rw [← hlen]; exact (show 2 ≤ 3 by decide))
  obtain ⟨cs1, rfl, hc1⟩ := agg_of (v := v1) (by rw [← hlen1]; exact (show 2 ≤ 3 by decide))
  rw [hc0] at hrv
  rw [hc1] at hrv1
  have hw : AF.wide d.1 d.2.1 := ⟨fun c hc => z9h (hwd.1 c hc), fun f hf b hb x hx => z9h (((hwd.2.1 f hf).2.2.2 b hb).1 x hx).2.2.2.2.1⟩
  have hP := AF.files_law (K := 2000) (Nat.le_refl _) (a0 := d.1) (a1 := d.2.1) (a2 := d.2.2) (a3 := e.1) (a4 := e.2.1) (a5 := e.2.2) hw (fun v hv => z33 (hwe.1 v hv)) (fun x hx => func_wide (hwe.2.1 x hx)) (fun s hs => j2z (hwe.2.2 s hs))
  have rets := (AF.q1h.e 2000).rets (((d.1, d.2.1, d.2.2), (e.1, e.2.1, e.2.2)), ()) (true, ()) (by
    unfold q3r
    show (AF.q1h.f 2000 d.1 d.2.1 d.2.2 e.1 e.2.1 e.2.2).bind _ = _
    rw [hP]
    rfl)
  refine (rets fresh (oldZ W) W [.agg cs0, .agg cs1] (fresh_inv W) ⟨_, _, rfl, ⟨cs0, rfl, rfl, hrv⟩, ⟨_, _, rfl, ⟨cs1, rfl, rfl, hrv1⟩, rfl⟩⟩ (fun F he hF => by cases hF) (fun _ _ _ => rfl)).mono fun e W' ⟨us, σ', Z', he, hus, _, _, _, frm⟩ => ?_
  have bel : Below W.heap.size W W' := ⟨frm.os, frm.tape, frm.output, frm.size, fun k hk => frm.block k hk z8e⟩
  obtain ⟨u, m, rfl, hu, hm⟩ := hus.cons
  have hm0 : m = [] := hm
  subst hm0
  obtain ⟨_, rfl⟩ : z1s (.bool true) = true ∧ u = .bool true := hu
  subst he
  have kk0 := Below.trod laidOut (by kernel_rfl) (of_decide_eq_true (by kernel_rfl)) k0 bel lt0
  have kk1 := Below.trod laidOut (by kernel_rfl) (of_decide_eq_true (by kernel_rfl)) k1 bel lt1
  exact ⟨_, rfl, _, _, _, [], _, [], hW', trodAll_mk1 (shut_bool Tryz.underlying4 _), trodAll_cons_mk kk0 (trodAll_cons_mk kk1 trodAll_mk0), rfl, bel.frame _, fun h => by cases h⟩
theorem over : Rows.avermentFilesRow.holds Tryz.pinned (OpenSpec.ofChange Rows.avermentFilesSpec) :=
  OpenClaim.holds_of_wide 5 Tryz.f5 rfl rfl rfl rfl rfl rfl rfl ⟨rfl, rfl, rfl, rfl, rfl⟩ rfl rfl rfl rfl rfl (by kernel_rfl) Tryz.func5 q9b.facts
    (of_decide_eq_true (by kernel_rfl)) (by unfold Func.isWrapper; first | (rw [if_pos (by decide +kernel)]; kernel_rfl) | (rw [if_neg (by decide +kernel)]; exact ⟨rfl, rfl⟩))
    (fun os started H enc _ => lifted os started H enc)
theorem proved : Rows.AvermentFilesCardSaid :=
  Claim7.holds_tied_plain_at .later [] [.handle] true (true, "ef6b4a2e4951f5633a053af040cff40633adf28c1de0d9ae68ccffb901b96e32") true
    over (fun _ h => by cases h) (by kernel_rfl) (fun _ h => by cases h) avermentFiles_row_tie rfl ⟨rfl, rfl⟩ (by kernel_rfl) rfl
    (fun f fn hf hfn => by
      obtain rfl : f = 5 := Option.some.inj ((show Tryz.prog.funcNamed "averment/avermenttop.AvermentFiles" = some 5 by kernel_rfl).symm.trans hf) |>.symm
      obtain rfl : fn = Tryz.f5 := (Option.some.inj (Tryz.func5.symm.trans hfn)).symm
      exact ⟨by kernel_rfl, fun j t ht => by
        have hm : t ∈ [49, 54] := by
          have := Array.mem_of_getElem? ht
          rw [← Array.mem_toList_iff] at this
          exact this
        have hall : ([49, 54].all fun u => !Tryz.prog.wantsStandIn u) = true := by kernel_rfl
        exact (show Tryz.prog.wantsStandIn t = false by simpa using List.all_eq_true.1 hall t hm)⟩)
    (by kernel_rfl)
#print axioms proved
end Go.Proofs.YtdjkdmjdcdljmaaGreatDoor.z2b
namespace Go.Proofs.YtdjkdmjdcdljmaaGreatDoor
theorem avermentFiles_holds : Rows.AvermentFilesCardSaid := z2b.proved
end Go.Proofs.YtdjkdmjdcdljmaaGreatDoor
