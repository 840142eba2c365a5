/- The card of AvermentUnique: for every input the law returns true. Condition: errors.errorType reads as the text of the program lays it (the card ties it). -/
import Derived.Test.YtdjkdmjdcdljmaaGreatDoorRows
import Derived.Test.YtdjkdmjdcdljmaaGreatDoorCards
import Derived.Test.YtdjkdmjdcdljmaaGreatDoorTie
import Derived.Test.YtdjkdmjdcdljmaaGreatDoorFactUnique
import Derived.Test.YtdjkdmjdcdljmaaGreatDoorQG
import Derived.WalkKit
import Derived.ProofKit
import Derived.OpenShut
import Derived.ShutString
import Derived.ChangeOld
import Derived.Below
import Derived.Carry
import Derived.SizedLaws
import Derived.LaidMore
import Derived.LaidHandle
import Derived.LaidLaws
import Derived.SevenTiedAt
namespace Go.Proofs.YtdjkdmjdcdljmaaGreatDoor.z0a
open Go.ChangeShapes Go.WideShapes Go.ChangeAt Go.RowKit Go.Proofs.YtdjkdmjdcdljmaaGreatDoorY
theorem own : ownKnob Tryz.prog.godebug = none := by kernel_rfl
theorem laidOut : laidOutB Tryz.prog = true := by kernel_rfl
abbrev tB : Ty := .slice (.int .u8)
theorem chk0 : j0u Tryz.prog 16 22 tB = true := by kernel_rfl
theorem byte_of {n : Int} (h : (Lit.int .u8 n).wf = true) : 0 ≤ n ∧ n < 256 := by
  simp [Lit.wf, IntKind.min, IntKind.max, IntKind.bits, IntKind.signed] at h
  omega
def fresh : Num := fun _ _ => .fresh
theorem z71 {r : Nat} : ¬ fresh.own r := fun ⟨_, _, s, h, _⟩ => by cases h
abbrev laid : List (String × DataW Unit) := [("errors.errorType", Rows.laid_errors_errorType)]
theorem err_row : ((List.range Tryz.prog.types.size).all fun t => !Tryz.prog.rowNamed t [101, 114, 114, 111, 114] || Nat.beq t 34) = true := by kernel_rfl
theorem glob_of {W : World} (hL : laidMetH Tryz.prog laid W) : Glob (oldZ W) W := by
  intro v hv
  have hh : handlesMet Tryz.prog laid W := hL.2
  obtain ⟨name, u, ty, h1, h2, h3, h4, h5⟩ := hh _ (List.mem_singleton.2 rfl)
  have hn : name = [101, 114, 114, 111, 114] := by
    have : (Rows.laid_errors_errorType (H := Unit)).handleName? = some [101, 114, 114, 111, 114] := by kernel_rfl
    exact (Option.some.inj (this.symm.trans h1)).symm
  subst hn
  have hu : u = 338 := by
    have : (Tryz.prog.cutTypes.find? (·.1 == "internal/reflectlite.rtype")).map (·.2) = some 338 := by kernel_rfl
    exact (Option.some.inj (this.symm.trans h2)).symm
  subst hu
  have ht : ty = 34 := by
    have := List.all_eq_true.1 err_row ty (List.mem_range.2 h3)
    rw [h4] at this
    exact Nat.eq_of_beq_eq_true (by simpa using this)
  subst ht
  have hg : Tryz.prog.globalNamed "errors.errorType" = some 0 := by kernel_rfl
  unfold World.var? at h5
  rw [show (("errors.errorType", (Rows.laid_errors_errorType : DataW Unit)) : String × DataW Unit).1 = "errors.errorType" from rfl, hg, Option.bind_some] at h5
  have hvv : v = .iface 338 (.agg #[typeHandle Tryz.prog 34]) := by
    have : globV = some (.iface 338 (.agg #[typeHandle Tryz.prog 34])) := by kernel_rfl
    exact Option.some.inj (hv.symm.trans this)
  subst hvv
  cases hc : W.heap[0]? with
  | none => rw [hc] at h5; cases h5
  | some o =>
    rw [hc] at h5
    cases o with
    | cells cs el fr =>
      simp only [Option.some.injEq] at h5
      subst h5
      refine ⟨?_, ?_⟩
      · exact (Array.getElem?_eq_some_iff.1 hc).1
      · unfold World.cell?
        simp only [hc]
        rfl
    | _ => cases h5
theorem fresh_inv {w : World} (h : Glob (oldZ w) w) : Inv fresh (oldZ w) w := ⟨(fun _ _ _ _ _ ⟨_, h, _⟩ => by cases h), (fun r h => absurd h z71), (fun r h => h), (fun r h => absurd h z71), h⟩
noncomputable def z8b (os : Os) : World :=
  let w0 := World.holding Tryz.prog os ⟨#[], #[], []⟩
  { w0 with heap := w0.heap.modify 0 fun
      | .cells _ t frozen => .cells #[.iface 338 (.agg #[.pointer (some ⟨1, 34, none⟩)])] t frozen
      | o => o }
theorem z7p (os : Os) (args : Array Value) : laidMetH Tryz.prog laid ((z8b os).forCall (fun _ _ => 0) ⟨#[], args, []⟩).memory :=
  laidMetH_of_parts (laidMet_nil _ _) (by kernel_rfl)
set_option maxRecDepth 100000 in
theorem lifted (os : Os) (started : os.Started) (H : Type) (enc : TypeId × Value → H) :
    ReturnsInHanded {} Tryz.checked os 4 .any (fun w args => (Rows.avermentUniqueSpec.pre enc Tryz.prog Tryz.f4 [] false w args ∧ laidMetH Tryz.prog laid w) ∧ sizedMet enc Tryz.prog Tryz.f4 (OpenSpec.ofChange Rows.avermentUniqueSpec) false w args)
      (Rows.avermentUniqueSpec.post enc Tryz.prog Tryz.f4 false true false false) := by
  refine returnsInHanded_of_change_and (C := Tryz.checked) (X := fun w _ => laidMetH Tryz.prog laid w) (fun _ _ _ hh h => h.of_heap hh) own started (by kernel_rfl) Tryz.func4
    (ChangeSpec.witness_at (enc := enc) (C := Tryz.checked) (os := os) (X := fun w _ => laidMetH Tryz.prog laid w) false (z8b os) #[.slice none 0 0, .slice none 0 0] 8 rfl (by kernel_rfl) (by kernel_rfl) (by kernel_rfl) (by kernel_rfl) (by kernel_rfl) (z7p os _)) ?_
  intro W base args ds gs before hval0 hW _ _ hL _
  have hW' := hW
  obtain ⟨p, q, hA0, hV, rfl, hfz, hnd⟩ := hW
  have hA : DataW.TrodAll enc Tryz.prog W 0 (fun _ => true) true Tryz.f4.params.toList args.toList ds p := hA0
  rw [show Tryz.f4.params.toList = [22, 22] from rfl] at hA
  obtain ⟨v0, vs0, d0, ds0, p0, q0, hargs, rfl, rfl, h0, r0⟩ := trodAll_cons hA
  obtain ⟨v1, vs1, d1, ds1, p1, q1, hargs1, rfl, rfl, h1, r1⟩ := trodAll_cons r0
  obtain ⟨rfl, rfl, rfl⟩ := trodAll_nil r1
  subst hargs1
  obtain rfl : args = #[v0, v1] := by cases args; simp_all
  obtain ⟨rfl, rfl⟩ := trodVars_none hV
  have k0 := h0
  have k1 := h1
  have lt0 : ∀ x ∈ p0, x.block < W.heap.size := by obtain ⟨m, hm⟩ := k0; exact DataW.trod_lt m _ _ _ hm
  have lt1 : ∀ x ∈ p1, x.block < W.heap.size := by obtain ⟨m, hm⟩ := k1; exact DataW.trod_lt m _ _ _ hm
  obtain ⟨fuel0, hf0⟩ := h0
  obtain ⟨fuel1, hf1⟩ := h1
  obtain ⟨d, hd, hwd⟩ := z7r (M := AU.M) 16 22 tB chk0 fuel0 _ _ hf0
  obtain ⟨e, he1, hwe⟩ := z7r (M := AU.M) 16 22 tB chk0 fuel1 _ _ hf1
  obtain ⟨x0, y0, z0, rfl⟩ := okWide_slice (e := 5) (by kernel_rfl) (hval0 0 22 v0 rfl rfl)
  obtain ⟨x1, y1, z1, rfl⟩ := okWide_slice (e := 5) (by kernel_rfl) (hval0 1 22 v1 rfl rfl)
  have hrv := DV.rvs (σ := fresh) [] hd
  have hrv1 := DV.rvs (σ := fresh) [] he1
  obtain ⟨u0, m0, hu0, q0', hm0⟩ := hrv
  obtain ⟨u1, m1, hu1, q1', hm1⟩ := hrv1
  have e0 : u0 = .slice x0 y0 z0 := (List.cons.inj hu0).1.symm
  have e1 : u1 = .slice x1 y1 z1 := (List.cons.inj hu1).1.symm
  subst e0 e1
  have hP := AU.j3s (K := 20000) (Nat.le_refl _) (a := d) (b := e) (fun x hx => byte_of (hwd x hx)) (fun x hx => byte_of (hwe x hx))
  have rets := (AU.q2p.e 20000).rets ((d, e), ()) (true, ()) (by
    unfold q2u
    show (AU.q2p.f 20000 d e).bind _ = _
    rw [hP]
    rfl)
  refine (rets fresh (oldZ W) W [.slice x0 y0 z0, .slice x1 y1 z1] (fresh_inv (glob_of hL)) ⟨_, _, rfl, q0', ⟨_, _, rfl, q1', rfl⟩⟩ (fun F he hF => by cases hF) (fun _ _ _ => rfl)).mono fun e W' ⟨us, σ', Z', he, hus, _, _, _, frm⟩ => ?_
  have bel : Below W.heap.size W W' := ⟨frm.os, frm.tape, frm.output, frm.size, fun k hk => frm.block k hk z71⟩
  obtain ⟨u, m, rfl, hu, hm⟩ := hus.cons
  have hm0 : m = [] := hm
  subst hm0
  obtain ⟨_, rfl⟩ : z0f (.bool true) = true ∧ u = .bool true := hu
  subst he
  have kk0 := Below.trod laidOut (by kernel_rfl) (of_decide_eq_true (by kernel_rfl)) k0 bel lt0
  have kk1 := Below.trod laidOut (by kernel_rfl) (of_decide_eq_true (by kernel_rfl)) k1 bel lt1
  exact ⟨_, rfl, _, _, _, [], _, [], hW', trodAll_mk1 (shut_bool Tryz.underlying4 _), trodAll_cons_mk kk0 (trodAll_cons_mk kk1 trodAll_mk0), rfl, bel.frame _, fun h => by cases h⟩
theorem over : Rows.avermentUniqueRow.holds Tryz.pinned (OpenSpec.ofChange Rows.avermentUniqueSpec) :=
  OpenClaim.holds_of_wide 4 Tryz.f4 rfl rfl rfl rfl rfl rfl rfl ⟨rfl, rfl, rfl, rfl, rfl⟩ rfl rfl rfl rfl rfl (by kernel_rfl) Tryz.func4 q7o.facts
    (of_decide_eq_true (by kernel_rfl)) (by unfold Func.isWrapper; first | (rw [if_pos (by decide +kernel)]; kernel_rfl) | (rw [if_neg (by decide +kernel)]; exact ⟨rfl, rfl⟩))
    (fun os started H enc _ => lifted os started H enc)
theorem proved : Rows.AvermentUniqueCardSaid :=
  Claim7.holds_tied_plain_at .later [] [.handle] true (true, "ef6b4a2e4951f5633a053af040cff40633adf28c1de0d9ae68ccffb901b96e32") true
    over (fun _ h => by cases h) (by kernel_rfl) (fun _ h => by cases h) avermentUnique_row_tie rfl ⟨rfl, rfl⟩ (by kernel_rfl) rfl
    (fun f fn hf hfn => by
      obtain rfl : f = 4 := Option.some.inj ((show Tryz.prog.funcNamed "averment/avermenttop.AvermentUnique" = some 4 by kernel_rfl).symm.trans hf) |>.symm
      obtain rfl : fn = Tryz.f4 := (Option.some.inj (Tryz.func4.symm.trans hfn)).symm
      exact ⟨by kernel_rfl, fun j t ht => by
        have hm : t ∈ [22, 22] := by
          have := Array.mem_of_getElem? ht
          rw [← Array.mem_toList_iff] at this
          exact this
        have hall : ([22, 22].all fun u => !Tryz.prog.wantsStandIn u) = true := by kernel_rfl
        exact (show Tryz.prog.wantsStandIn t = false by simpa using List.all_eq_true.1 hall t hm)⟩)
    (by kernel_rfl)
#print axioms proved
end Go.Proofs.YtdjkdmjdcdljmaaGreatDoor.z0a
namespace Go.Proofs.YtdjkdmjdcdljmaaGreatDoor
theorem avermentUnique_holds : Rows.AvermentUniqueCardSaid := z0a.proved
end Go.Proofs.YtdjkdmjdcdljmaaGreatDoor
