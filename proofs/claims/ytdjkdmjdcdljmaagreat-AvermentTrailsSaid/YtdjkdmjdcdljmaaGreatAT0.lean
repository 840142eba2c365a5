/- Written by a program of this session: what Go functions come to, as plain functions, each shown by the second machine. No condition. -/
import Derived.Test.YtdjkdmjdcdljmaaGreatProg
import Derived.Test.YtdjkdmjdcdljmaaGreatMz
namespace Go.Proofs.YtdjkdmjdcdljmaaGreat.AT
open Go.Proofs.YtdjkdmjdcdljmaaGreatX
noncomputable section
set_option linter.unusedVariables false
set_option linter.unusedSimpArgs false
set_option maxRecDepth 1000000
set_option maxHeartbeats 4000000
abbrev yI : Ty := .int .i64
abbrev yImport : Ty := (.pair .str yI)
abbrev LImport := ByteArray × Int
abbrev yKnown : Ty := (.pair .bool yI)
abbrev LKnown := Bool × Int
abbrev ySpan : Ty := (.pair yI yI)
abbrev LSpan := Int × Int
abbrev yEnd : Ty := (.pair yI (.pair yI ySpan))
abbrev LEnd := Int × Int × LSpan
abbrev yValue : Ty := (.pair yI (.pair yKnown (.pair ySpan yI)))
abbrev LValue := Int × LKnown × LSpan × Int
abbrev yFrame : Ty := (.pair yI (.pair yI (.pair yI (.pair (.slice yI) (.slice yI)))))
abbrev LFrame := Int × Int × Int × List Int × List Int
abbrev yInsn : Ty := (.pair yI (.pair yI (.pair yI (.pair yI (.pair yI (.slice yI))))))
abbrev LInsn := Int × Int × Int × Int × Int × List Int
abbrev yNeed : Ty := (.pair yI (.pair .bool (.pair yI (.slice yValue))))
abbrev LNeed := Int × Bool × Int × List LValue
abbrev yBlock : Ty := (.pair (.slice yInsn) yEnd)
abbrev LBlock := List LInsn × LEnd
abbrev ysited : Ty := (.pair (.slice yInsn) (.pair (.slice yI) yEnd))
abbrev Lsited := List LInsn × List Int × LEnd
abbrev ySum : Ty := (.pair .bool (.pair (.slice yValue) (.pair .bool yValue)))
abbrev LSum := Bool × List LValue × Bool × LValue
abbrev yFunc : Ty := (.pair .str (.pair yI (.pair yI (.slice yBlock))))
abbrev LFunc := ByteArray × Int × Int × List LBlock
abbrev yprogram : Ty := (.pair (.slice yFunc) (.pair (.slice (.slice ysited)) (.slice yI)))
abbrev Lprogram := List LFunc × List (List Lsited) × List Int
noncomputable def M : Cfg := { P := Tryz.prog, ty := fun t => bif Nat.beq t 2 then some yI else bif Nat.beq t 3 then some yI else bif Nat.beq t 5 then some (.int .u8) else bif Nat.beq t 47 then some yFunc else bif Nat.beq t 66 then some ySpan else bif Nat.beq t 68 then some yValue else bif Nat.beq t 84 then some (.slice yI) else bif Nat.beq t 86 then some yFrame else bif Nat.beq t 91 then some yBlock else bif Nat.beq t 107 then some yFunc else bif Nat.beq t 110 then some yImport else bif Nat.beq t 136 then some ysited else bif Nat.beq t 137 then some (.slice ysited) else bif Nat.beq t 144 then some yInsn else bif Nat.beq t 147 then some ySum else bif Nat.beq t 175 then some yBlock else bif Nat.beq t 176 then some yInsn else bif Nat.beq t 221 then some yNeed else bif Nat.beq t 271 then some ySpan else none, frz := fun t => bif Nat.beq t 84 then some (.slice yI) else bif Nat.beq t 137 then some (.slice ysited) else none, errno := 127, placed := 235 }
theorem mxd : M.P.follows .mixedOrders = true := by kernel_rfl
theorem asrun_eq {A : Type} {o : Option (A × Unit)} : o = (o.bind fun y => some y.1).bind fun r => some (r, ()) := by cases o <;> rfl
namespace avermentlaw04_Few
noncomputable def sig : Sig := ⟨(.agg (.cons (.ty (.slice yI)) (.cons (.ty (.slice yFunc)) (.ty (.slice yImport))))), [], (.agg (.cons (.ty (.slice yI)) (.cons (.ty (.slice yFunc)) (.ty (.slice yImport))))), []⟩
noncomputable def C {α : Type} (K : Nat) : CallsBy α := callsE (M := M) []
noncomputable def RF : RefitBy := (rfPut 0 113 18 ⟨[1, 2, 3, 4, 5, 6, 7, 8], (.cons (.ptr 0 0) (.cons (.ptr 1 0) (.cons (.ptr 2 0) (.cons (.ty yI) (.cons (.ptr 3 0) (.cons (.ptr 4 0) (.cons (.ty yI) (.ptr 5 0)))))))), [.cells 26 0 (.cons (.ty (.slice yI)) (.cons (.ty (.slice yFunc)) (.ty (.slice yImport)))), .cells 26 0 (.cons (.own 6) (.cons (.own 7) (.own 8))), .cells 26 0 (.cons (.ty (.slice yI)) (.cons (.own 9) (.ty (.slice yImport)))), .cells 107 0 (.cons (.ty .str) (.cons (.ty yI) (.cons (.ty yI) (.ty (.slice yBlock))))), .cells 107 0 (.cons (.ty .str) (.cons (.ty yI) (.cons (.ty yI) (.own 10)))), .cells 175 0 (.cons (.ty (.slice yInsn)) (.cons (.ty yI) (.cons (.ty yI) (.cons (.ty yI) (.ty yI))))), .list 2 yI [], .list 107 yFunc [], .list 109 yImport [], .list 107 yFunc [], .list 175 yBlock []]⟩ (rfPut 0 113 19 ⟨[1, 2, 3, 4, 6], (.cons (.ptr 0 0) (.cons (.ptr 1 0) (.cons (.ptr 2 0) (.cons (.ty yI) (.ptr 3 0))))), [.cells 26 0 (.cons (.ty (.slice yI)) (.cons (.ty (.slice yFunc)) (.ty (.slice yImport)))), .cells 26 0 (.cons (.own 4) (.cons (.own 5) (.own 6))), .cells 26 0 (.cons (.ty (.slice yI)) (.cons (.own 7) (.ty (.slice yImport)))), .cells 107 0 (.cons (.ty .str) (.cons (.ty yI) (.cons (.ty yI) (.ty (.slice yBlock))))), .list 2 yI [], .list 107 yFunc [], .list 109 yImport [], .list 107 yFunc []]⟩ noRefit))
noncomputable def CP {α : Type} (K : Nat) : CutBy α := (cpPut 3 (rpCut M bindC [.bool] [34] (C K) (eqBy M.P)) (cpPut 9 (rpCut M bindC [.bool] [52] (C K) (eqBy M.P)) (cpPut 13 (rpCut M bindC [.bool] [74] (C K) (eqBy M.P)) noCuts)))
theorem CP_ok {α : Type} (K : Nat) : CutsOk (α := α) M 0 (CP K) := (cpPut_ok (rpCut_ok callsE_ok (eqBy_ok _) mxd) (cpPut_ok (rpCut_ok callsE_ok (eqBy_ok _) mxd) (cpPut_ok (rpCut_ok callsE_ok (eqBy_ok _) mxd) noCuts_ok)))
noncomputable def l2.h : SSh := ⟨[1, 2, 3, 4, 5, 6, 7, 8, 9], (.cons (.ptr 0 0) (.cons (.ptr 1 0) (.cons (.ptr 2 0) (.cons (.ty yI) (.cons (.ptr 3 0) (.cons (.ptr 4 0) (.cons (.ty yI) (.cons (.ptr 5 0) (.ty yI))))))))), [.cells 26 0 (.cons (.ty (.slice yI)) (.cons (.ty (.slice yFunc)) (.ty (.slice yImport)))), .cells 26 0 (.cons (.own 6) (.cons (.own 7) (.own 8))), .cells 26 0 (.cons (.ty (.slice yI)) (.cons (.own 9) (.ty (.slice yImport)))), .cells 107 0 (.cons (.ty .str) (.cons (.ty yI) (.cons (.ty yI) (.ty (.slice yBlock))))), .cells 107 0 (.cons (.ty .str) (.cons (.ty yI) (.cons (.ty yI) (.own 10)))), .cells 175 0 (.cons (.own 11) (.cons (.ty yI) (.cons (.ty yI) (.cons (.ty yI) (.ty yI))))), .list 2 yI [], .list 107 yFunc [], .list 109 yImport [], .list 107 yFunc [], .list 175 yBlock [], .list 176 yInsn []]⟩
noncomputable def l2.x : SSh := ⟨[1, 2, 3, 4, 5, 6, 7, 8], (.cons (.ptr 0 0) (.cons (.ptr 1 0) (.cons (.ptr 2 0) (.cons (.ty yI) (.cons (.ptr 3 0) (.cons (.ptr 4 0) (.cons (.ty yI) (.ptr 5 0)))))))), [.cells 26 0 (.cons (.ty (.slice yI)) (.cons (.ty (.slice yFunc)) (.ty (.slice yImport)))), .cells 26 0 (.cons (.own 6) (.cons (.own 7) (.own 8))), .cells 26 0 (.cons (.ty (.slice yI)) (.cons (.own 9) (.ty (.slice yImport)))), .cells 107 0 (.cons (.ty .str) (.cons (.ty yI) (.cons (.ty yI) (.ty (.slice yBlock))))), .cells 107 0 (.cons (.ty .str) (.cons (.ty yI) (.cons (.ty yI) (.own 10)))), .cells 175 0 (.cons (.own 11) (.cons (.ty yI) (.cons (.ty yI) (.cons (.ty yI) (.ty yI))))), .list 2 yI [], .list 107 yFunc [], .list 109 yImport [], .list 107 yFunc [], .list 175 yBlock [], .list 176 yInsn []]⟩
noncomputable def l2.cx : l2.h.I → (List LInsn) → l2.x.I := fun x r => (((), ((), ((), (x.1.2.2.2.1, ((), ((), (x.1.2.2.2.2.2.2.1, ()))))))), ((x.2.1.1, (x.2.1.2.1, x.2.1.2.2)), (((), ((), ())), ((x.2.2.2.1.1, ((), x.2.2.2.1.2.2)), ((x.2.2.2.2.1.1, (x.2.2.2.2.1.2.1, (x.2.2.2.2.1.2.2.1, x.2.2.2.2.1.2.2.2))), ((x.2.2.2.2.2.1.1, (x.2.2.2.2.2.1.2.1, (x.2.2.2.2.2.1.2.2.1, ()))), (((), (x.2.2.2.2.2.2.1.2.1, (x.2.2.2.2.2.2.1.2.2.1, (x.2.2.2.2.2.2.1.2.2.2.1, x.2.2.2.2.2.2.1.2.2.2.2)))), (x.2.2.2.2.2.2.2.1, (x.2.2.2.2.2.2.2.2.1, (x.2.2.2.2.2.2.2.2.2.1, (x.2.2.2.2.2.2.2.2.2.2.1, (x.2.2.2.2.2.2.2.2.2.2.2.1, (r, ())))))))))))))
noncomputable def l2.f (K : Nat) : Nat → Int → Int → List LBlock → List LInsn → Option (List LInsn)
  | 0, _, _, _, _ => none
  | k + 1, a1, a2, a11, a24 => bindC (bif decide ((0 : Int) ≤ a1) && true then a11[a1.toNat]?.bind fun t => bif decide (a2 < (↑(List.length t.1) : Int)) then some (decide (a2 < (14 : Int))) else some false else none) fun t => bif t then bif decide ((0 : Int) ≤ a1) && true then a11[a1.toNat]?.bind fun t => bif decide ((0 : Int) ≤ a2) && true then t.1[a2.toNat]?.bind fun t => bif decide ((↑(0 : Nat) : Int) ≤ if (6 : Int) < (↑(List.length t.2.2.2.2.2) : Int) then (6 : Int) else (↑(List.length t.2.2.2.2.2) : Int)) && decide ((if (6 : Int) < (↑(List.length t.2.2.2.2.2) : Int) then (6 : Int) else (↑(List.length t.2.2.2.2.2) : Int)) ≤ (↑(List.length t.2.2.2.2.2) : Int)) && true then bif (a24.length + [(t.1, t.2.1, t.2.2.1, t.2.2.2.1, t.2.2.2.2.1, List.drop (0 : Nat) (List.take (if (6 : Int) < (↑(List.length t.2.2.2.2.2) : Int) then (6 : Int) else (↑(List.length t.2.2.2.2.2) : Int)).toNat t.2.2.2.2.2))].length).ble (100000 : Nat) then l2.f K k a1 (IntKind.i64.wrap (a2 + (1 : Int))) a11 (a24 ++ [(t.1, t.2.1, t.2.2.1, t.2.2.2.1, t.2.2.2.2.1, List.drop (0 : Nat) (List.take (if (6 : Int) < (↑(List.length t.2.2.2.2.2) : Int) then (6 : Int) else (↑(List.length t.2.2.2.2.2) : Int)).toNat t.2.2.2.2.2))]) else none else none else none else none else some a24
noncomputable def l2.F (K : Nat) (k : Nat) : l2.h.I → Option (List LInsn) := fun x => l2.f K k x.1.2.2.2.2.2.2.1 x.1.2.2.2.2.2.2.2.2 x.2.2.2.2.1.2.2.2 x.2.2.2.2.2.2.2.2.2.2.2.2.1
noncomputable def l2.lp {α : Type} (K : Nat) : St → Kn α → Option α := lpX 0 113 4 l2.h l2.x (l2.F K K) l2.cx
theorem l2.ok {α : Type} (K : Nat) : LoopOk (α := α) M 0 (nthLoop Tryz.f32 2) (l2.lp K) := lpX_okS (C := (C K)) (LP := noLoops) (RF := RF) (CP := (CP K)) (L := 20) callsE_ok mxd (show RefitOk M 0 RF from (rfPut_ok (lb rfl) (rfPut_ok (lb rfl) noRefit_ok))) (CP_ok K) (noL (by kernel_rfl)) (lb rfl) (lb rfl) (fun x => rfl) fun k x => by
  rw [withCv_def]
  unfold l2.F
  rw [l2.f]
  try simp only [el]
  kernel_rfl
noncomputable def l1.h : SSh := ⟨[1, 2, 3, 4, 5, 6, 7], (.cons (.ptr 0 0) (.cons (.ptr 1 0) (.cons (.ptr 2 0) (.cons (.ty yI) (.cons (.ptr 3 0) (.cons (.ptr 4 0) (.ty yI))))))), [.cells 26 0 (.cons (.ty (.slice yI)) (.cons (.ty (.slice yFunc)) (.ty (.slice yImport)))), .cells 26 0 (.cons (.own 5) (.cons (.own 6) (.own 7))), .cells 26 0 (.cons (.ty (.slice yI)) (.cons (.own 8) (.ty (.slice yImport)))), .cells 107 0 (.cons (.ty .str) (.cons (.ty yI) (.cons (.ty yI) (.ty (.slice yBlock))))), .cells 107 0 (.cons (.ty .str) (.cons (.ty yI) (.cons (.ty yI) (.own 9)))), .list 2 yI [], .list 107 yFunc [], .list 109 yImport [], .list 107 yFunc [], .list 175 yBlock []]⟩
noncomputable def l1.x : SSh := ⟨[1, 2, 3, 4, 6], (.cons (.ptr 0 0) (.cons (.ptr 1 0) (.cons (.ptr 2 0) (.cons (.ty yI) (.ptr 3 0))))), [.cells 26 0 (.cons (.ty (.slice yI)) (.cons (.ty (.slice yFunc)) (.ty (.slice yImport)))), .cells 26 0 (.cons (.own 4) (.cons (.own 5) (.own 6))), .cells 26 0 (.cons (.ty (.slice yI)) (.cons (.own 7) (.ty (.slice yImport)))), .cells 107 0 (.cons (.ty .str) (.cons (.ty yI) (.cons (.ty yI) (.own 8)))), .list 2 yI [], .list 107 yFunc [], .list 109 yImport [], .list 107 yFunc [], .list 175 yBlock []]⟩
noncomputable def l1.cx : l1.h.I → (List LBlock) → l1.x.I := fun x r => (((), ((), ((), (x.1.2.2.2.1, ())))), ((x.2.1.1, (x.2.1.2.1, x.2.1.2.2)), (((), ((), ())), ((x.2.2.2.1.1, ((), x.2.2.2.1.2.2)), ((x.2.2.2.2.2.1.1, (x.2.2.2.2.2.1.2.1, (x.2.2.2.2.2.1.2.2.1, ()))), (x.2.2.2.2.2.2.1, (x.2.2.2.2.2.2.2.1, (x.2.2.2.2.2.2.2.2.1, (x.2.2.2.2.2.2.2.2.2.1, (r, ()))))))))))
noncomputable def l1.f (K : Nat) : Nat → Int → List LBlock → List LBlock → Option (List LBlock)
  | 0, _, _, _ => none
  | k + 1, a1, a10, a18 => bindC (bif decide (a1 < (↑a10.length : Int)) then some (decide (a1 < (14 : Int))) else some false) fun t => bif t then bif decide ((0 : Int) ≤ a1) && true then a10[a1.toNat]?.bind fun t => (l2.f K K a1 (0 : Int) a10 []).bind fun t_1 => bif (a18.length + [(t_1, t.2.1, t.2.2.1, t.2.2.2.1, t.2.2.2.2)].length).ble (100000 : Nat) then l1.f K k (IntKind.i64.wrap (a1 + (1 : Int))) a10 (a18 ++ [(t_1, t.2.1, t.2.2.1, t.2.2.2.1, t.2.2.2.2)]) else none else none else some a18
noncomputable def l1.F (K : Nat) (k : Nat) : l1.h.I → Option (List LBlock) := fun x => l1.f K k x.1.2.2.2.2.2.2 x.2.2.2.2.1.2.2.2 x.2.2.2.2.2.2.2.2.2.2.1
noncomputable def l1.lp {α : Type} (K : Nat) : St → Kn α → Option α := lpX 0 113 2 l1.h l1.x (l1.F K K) l1.cx
theorem l1.ok {α : Type} (K : Nat) : LoopOk (α := α) M 0 (nthLoop Tryz.f32 1) (l1.lp K) := lpX_okS (C := (C K)) (LP := (lpPut 13 (l2.lp K) noLoops)) (RF := RF) (CP := (CP K)) (L := 20) callsE_ok mxd (show RefitOk M 0 RF from (rfPut_ok (lb rfl) (rfPut_ok (lb rfl) noRefit_ok))) (CP_ok K) (show LoopsOk M 0 (lpPut 13 (l2.lp K) noLoops) (loopsOf (nthLoop Tryz.f32 1)) from (show loopsOf (nthLoop Tryz.f32 1) = [nthLoop Tryz.f32 2] by kernel_rfl) ▸ (loopsOk_put (key := 13) (by kernel_rfl) (l2.ok K) noLoops_ok (by kernel_rfl))) (lb rfl) (lb rfl) (fun x => rfl) fun k x => by
  rw [withCv_def]
  unfold l1.F
  rw [l1.f]
  try simp only [el]
  kernel_rfl
noncomputable def l0.h : SSh := ⟨[1, 2, 3, 4], (.cons (.ptr 0 0) (.cons (.ptr 1 0) (.cons (.ptr 2 0) (.ty yI)))), [.cells 26 0 (.cons (.ty (.slice yI)) (.cons (.ty (.slice yFunc)) (.ty (.slice yImport)))), .cells 26 0 (.cons (.own 3) (.cons (.own 4) (.own 5))), .cells 26 0 (.cons (.ty (.slice yI)) (.cons (.own 6) (.ty (.slice yImport)))), .list 2 yI [], .list 107 yFunc [], .list 109 yImport [], .list 107 yFunc []]⟩
noncomputable def l0.x : SSh := ⟨[2, 3], (.cons (.ptr 0 0) (.ptr 1 0)), [.cells 26 0 (.cons (.own 2) (.cons (.own 3) (.own 4))), .cells 26 0 (.cons (.ty (.slice yI)) (.cons (.own 5) (.ty (.slice yImport)))), .list 2 yI [], .list 107 yFunc [], .list 109 yImport [], .list 107 yFunc []]⟩
noncomputable def l0.cx : l0.h.I → (List LFunc) → l0.x.I := fun x r => (((), ()), (((), ((), ())), ((x.2.2.2.1.1, ((), x.2.2.2.1.2.2)), (x.2.2.2.2.1, (x.2.2.2.2.2.1, (x.2.2.2.2.2.2.1, (r, ())))))))
noncomputable def l0.f (K : Nat) : Nat → Int → List LFunc → List LFunc → Option (List LFunc)
  | 0, _, _, _ => none
  | k + 1, a0, a2, a9 => bindC (bif decide (a0 < (↑a2.length : Int)) then some (decide (a0 < (30 : Int))) else some false) fun t => bif t then bif decide ((0 : Int) ≤ a0) && true then a2[a0.toNat]?.bind fun t => (l1.f K K (0 : Int) t.2.2.2 []).bind fun t_1 => bif (a9.length + [(t.1, t.2.1, t.2.2.1, t_1)].length).ble (100000 : Nat) then l0.f K k (IntKind.i64.wrap (a0 + (1 : Int))) a2 (a9 ++ [(t.1, t.2.1, t.2.2.1, t_1)]) else none else none else some a9
noncomputable def l0.F (K : Nat) (k : Nat) : l0.h.I → Option (List LFunc) := fun x => l0.f K k x.1.2.2.2 x.2.1.2.1 x.2.2.2.2.2.2.2.1
noncomputable def l0.lp {α : Type} (K : Nat) : St → Kn α → Option α := lpX 0 113 0 l0.h l0.x (l0.F K K) l0.cx
theorem l0.ok {α : Type} (K : Nat) : LoopOk (α := α) M 0 (nthLoop Tryz.f32 0) (l0.lp K) := lpX_okS (C := (C K)) (LP := (lpPut 9 (l1.lp K) (lpPut 13 (l2.lp K) noLoops))) (RF := RF) (CP := (CP K)) (L := 20) callsE_ok mxd (show RefitOk M 0 RF from (rfPut_ok (lb rfl) (rfPut_ok (lb rfl) noRefit_ok))) (CP_ok K) (show LoopsOk M 0 (lpPut 9 (l1.lp K) (lpPut 13 (l2.lp K) noLoops)) (loopsOf (nthLoop Tryz.f32 0)) from (show loopsOf (nthLoop Tryz.f32 0) = [nthLoop Tryz.f32 1, nthLoop Tryz.f32 2] by kernel_rfl) ▸ (loopsOk_put (key := 9) (by kernel_rfl) (l1.ok K) (loopsOk_put (key := 13) (by kernel_rfl) (l2.ok K) noLoops_ok (by kernel_rfl)) (by kernel_rfl))) (lb rfl) (lb rfl) (fun x => rfl) fun k x => by
  rw [withCv_def]
  unfold l0.F
  rw [l0.f]
  try simp only [el]
  kernel_rfl
noncomputable def f (K : Nat) (a0 : List Int) (a1 : List LFunc) (a2 : List LImport) : Option (List Int × List LFunc × List LImport) := bif decide ((↑(0 : Nat) : Int) ≤ if (20 : Int) < (↑a0.length : Int) then (20 : Int) else (↑a0.length : Int)) && decide ((if (20 : Int) < (↑a0.length : Int) then (20 : Int) else (↑a0.length : Int)) ≤ (↑a0.length : Int)) && true then bif decide ((↑(0 : Nat) : Int) ≤ if (30 : Int) < (↑a2.length : Int) then (30 : Int) else (↑a2.length : Int)) && decide ((if (30 : Int) < (↑a2.length : Int) then (30 : Int) else (↑a2.length : Int)) ≤ (↑a2.length : Int)) && true then (l0.f K K (0 : Int) a1 []).bind fun t => some (List.drop (0 : Nat) (List.take (if (20 : Int) < (↑a0.length : Int) then (20 : Int) else (↑a0.length : Int)).toNat a0), t, List.drop (0 : Nat) (List.take (if (30 : Int) < (↑a2.length : Int) then (30 : Int) else (↑a2.length : Int)).toNat a2)) else none else none
noncomputable def F (K : Nat) : sig.In → Option (List Int × List LFunc × List LImport) := fun x => f K x.1.1 x.1.2.1 x.1.2.2
noncomputable def cv : sig.In → (List Int × List LFunc × List LImport) → sig.Ou := fun x r => ((r.1, (r.2.1, r.2.2)), ())
theorem rets (K : Nat) : ∀ x y, withCv (F K) cv x = some y → Rets M 32 sig x y := runF_retsS (C := (C K)) (LP := (lpPut 3 (l0.lp K) (lpPut 9 (l1.lp K) (lpPut 13 (l2.lp K) noLoops)))) (RF := RF) (CP := (CP K)) callsE_ok mxd (show RefitOk M 0 RF from (rfPut_ok (lb rfl) (rfPut_ok (lb rfl) noRefit_ok))) (CP_ok K) (show LoopsOk M 0 (lpPut 3 (l0.lp K) (lpPut 9 (l1.lp K) (lpPut 13 (l2.lp K) noLoops))) (loopsOf (bodyOf Tryz.f32)) from (show loopsOf (bodyOf Tryz.f32) = [nthLoop Tryz.f32 0, nthLoop Tryz.f32 1, nthLoop Tryz.f32 2] by kernel_rfl) ▸ (loopsOk_put (key := 3) (by kernel_rfl) (l0.ok K) (loopsOk_put (key := 9) (by kernel_rfl) (l1.ok K) (loopsOk_put (key := 13) (by kernel_rfl) (l2.ok K) noLoops_ok (by kernel_rfl)) (by kernel_rfl)) (by kernel_rfl))) (lb rfl) Tryz.func32 (by kernel_rfl) fun x => by
  rw [withCv_def]
  unfold F f
  try simp only [el]
  kernel_rfl
noncomputable def e (K : Nat) : En M := ⟨32, sig, _, F K, cv, by rfl, Tryz.f32, Tryz.func32, by kernel_rfl, rfl, rets K⟩
end avermentlaw04_Few
namespace avermentlaw07_Few
noncomputable def sig : Sig := ⟨(.agg (.cons (.ty (.slice yI)) (.cons (.ty (.slice yFunc)) (.cons (.ty (.slice yImport)) (.cons (.ty yI) (.cons (.ty (.slice yI)) (.ty (.slice yI)))))))), [], (.agg (.cons (.ty (.slice yI)) (.cons (.ty (.slice yFunc)) (.cons (.ty (.slice yImport)) (.cons (.ty yI) (.cons (.ty (.slice yI)) (.ty (.slice yI)))))))), []⟩
noncomputable def C {α : Type} (K : Nat) : CallsBy α := callsE (M := M) [avermentlaw04_Few.e K]
noncomputable def f (K : Nat) (a0 : List Int) (a1 : List LFunc) (a2 : List LImport) (a4 : List Int) (a5 : List Int) : Option (List Int × List LFunc × List LImport × List Int × List Int) := (avermentlaw04_Few.f K a0 a1 a2).bind fun t => bif decide ((↑(0 : Nat) : Int) ≤ if (8 : Int) < (↑a4.length : Int) then (8 : Int) else (↑a4.length : Int)) && decide ((if (8 : Int) < (↑a4.length : Int) then (8 : Int) else (↑a4.length : Int)) ≤ (↑a4.length : Int)) && true then bif decide ((↑(0 : Nat) : Int) ≤ if (40 : Int) < (↑a5.length : Int) then (40 : Int) else (↑a5.length : Int)) && decide ((if (40 : Int) < (↑a5.length : Int) then (40 : Int) else (↑a5.length : Int)) ≤ (↑a5.length : Int)) && true then some (t.1, t.2.1, t.2.2, List.drop (0 : Nat) (List.take (if (8 : Int) < (↑a4.length : Int) then (8 : Int) else (↑a4.length : Int)).toNat a4), List.drop (0 : Nat) (List.take (if (40 : Int) < (↑a5.length : Int) then (40 : Int) else (↑a5.length : Int)).toNat a5)) else none else none
noncomputable def F (K : Nat) : sig.In → Option (List Int × List LFunc × List LImport × List Int × List Int) := fun x => f K x.1.1 x.1.2.1 x.1.2.2.1 x.1.2.2.2.2.1 x.1.2.2.2.2.2
noncomputable def cv : sig.In → (List Int × List LFunc × List LImport × List Int × List Int) → sig.Ou := fun x r => ((r.1, (r.2.1, (r.2.2.1, (x.1.2.2.2.1, (r.2.2.2.1, r.2.2.2.2))))), ())
theorem rets (K : Nat) : ∀ x y, withCv (F K) cv x = some y → Rets M 5 sig x y := runF_retsS (C := (C K)) (LP := noLoops) (RF := noRefit) (CP := noCuts) callsE_ok mxd noRefit_ok noCuts_ok (noL (by kernel_rfl)) (lb rfl) Tryz.func5 (by kernel_rfl) fun x => by
  rw [withCv_def]
  unfold F f
  try simp only [el]
  kernel_rfl
noncomputable def e (K : Nat) : En M := ⟨5, sig, _, F K, cv, by rfl, Tryz.f5, Tryz.func5, by kernel_rfl, rfl, rets K⟩
end avermentlaw07_Few
namespace avermentlaw04_Tiny
noncomputable def sig : Sig := ⟨.unit, [], (.agg (.cons (.ty (.slice yI)) (.cons (.ty (.slice yFunc)) (.ty (.slice yImport))))), []⟩
noncomputable def C {α : Type} (K : Nat) : CallsBy α := callsE (M := M) []
noncomputable def f (K : Nat) : Option (List Int × List LFunc × List LImport) := some ([], [(ByteArray.mk #[(109 : UInt8), (97 : UInt8), (105 : UInt8), (110 : UInt8)], (0 : Int), (2 : Int), [([((1 : Int), (1 : Int), (0 : Int), (0 : Int), (5 : Int), [])], (3 : Int), (1 : Int), (0 : Int), (0 : Int))])], [])
noncomputable def F (K : Nat) : sig.In → Option (List Int × List LFunc × List LImport) := fun x => f K
noncomputable def cv : sig.In → (List Int × List LFunc × List LImport) → sig.Ou := fun x r => ((r.1, (r.2.1, r.2.2)), ())
theorem rets (K : Nat) : ∀ x y, withCv (F K) cv x = some y → Rets M 33 sig x y := runF_retsS (C := (C K)) (LP := noLoops) (RF := noRefit) (CP := noCuts) callsE_ok mxd noRefit_ok noCuts_ok (noL (by kernel_rfl)) (lb rfl) Tryz.func33 (by kernel_rfl) fun x => by
  rw [withCv_def]
  unfold F f
  try simp only [el]
  kernel_rfl
noncomputable def e (K : Nat) : En M := ⟨33, sig, _, F K, cv, by rfl, Tryz.f33, Tryz.func33, by kernel_rfl, rfl, rets K⟩
end avermentlaw04_Tiny
namespace avermentlaw04_End
noncomputable def sig : Sig := ⟨(.agg (.cons (.ty yI) (.cons (.ty yI) (.cons (.ty yI) (.ty yI))))), [], (.agg (.cons (.ty yI) (.cons (.ty yI) (.cons (.ty yI) (.ty yI))))), []⟩
noncomputable def C {α : Type} (K : Nat) : CallsBy α := callsE (M := M) []
noncomputable def f (K : Nat) : Option (Unit) := some ()
noncomputable def F (K : Nat) : sig.In → Option (Unit) := fun x => f K
noncomputable def cv : sig.In → Unit → sig.Ou := fun x r => ((x.1.1, (x.1.2.1, (x.1.2.2.1, x.1.2.2.2))), ())
theorem rets (K : Nat) : ∀ x y, withCv (F K) cv x = some y → Rets M 90 sig x y := runF_retsS (C := (C K)) (LP := noLoops) (RF := noRefit) (CP := noCuts) callsE_ok mxd noRefit_ok noCuts_ok (noL (by kernel_rfl)) (lb rfl) Tryz.func90 (by kernel_rfl) fun x => by
  rw [withCv_def]
  unfold F f
  try simp only [el]
  kernel_rfl
noncomputable def e (K : Nat) : En M := ⟨90, sig, _, F K, cv, by rfl, Tryz.f90, Tryz.func90, by kernel_rfl, rfl, rets K⟩
end avermentlaw04_End
namespace avermentlaw04_Insn
noncomputable def sig : Sig := ⟨(.agg (.cons (.ty yI) (.cons (.ty yI) (.cons (.ty yI) (.cons (.ty yI) (.cons (.ty yI) (.ty (.slice yI)))))))), [], (.agg (.cons (.ty yI) (.cons (.ty yI) (.cons (.ty yI) (.cons (.ty yI) (.cons (.ty yI) (.ty (.slice yI)))))))), []⟩
noncomputable def C {α : Type} (K : Nat) : CallsBy α := callsE (M := M) []
noncomputable def f (K : Nat) (a5 : List Int) : Option (List Int) := bif ((0 : Nat) + a5.length).ble (100000 : Nat) then some ([] ++ a5) else none
noncomputable def F (K : Nat) : sig.In → Option (List Int) := fun x => f K x.1.2.2.2.2.2
noncomputable def cv : sig.In → (List Int) → sig.Ou := fun x r => ((x.1.1, (x.1.2.1, (x.1.2.2.1, (x.1.2.2.2.1, (x.1.2.2.2.2.1, r))))), ())
theorem rets (K : Nat) : ∀ x y, withCv (F K) cv x = some y → Rets M 91 sig x y := runF_retsS (C := (C K)) (LP := noLoops) (RF := noRefit) (CP := noCuts) callsE_ok mxd noRefit_ok noCuts_ok (noL (by kernel_rfl)) (lb rfl) Tryz.func91 (by kernel_rfl) fun x => by
  rw [withCv_def]
  unfold F f
  try simp only [el]
  kernel_rfl
noncomputable def e (K : Nat) : En M := ⟨91, sig, _, F K, cv, by rfl, Tryz.f91, Tryz.func91, by kernel_rfl, rfl, rets K⟩
end avermentlaw04_Insn
namespace avermentlaw04_Func
noncomputable def sig : Sig := ⟨(.agg (.cons (.ty .str) (.cons (.ty yI) (.cons (.ty yI) (.ty (.slice yBlock)))))), [], (.agg (.cons (.ty .str) (.cons (.ty yI) (.cons (.ty yI) (.ty (.slice yBlock)))))), []⟩
noncomputable def C {α : Type} (K : Nat) : CallsBy α := callsE (M := M) [avermentlaw04_End.e K, avermentlaw04_Insn.e K]
noncomputable def RF : RefitBy := (rfPut 0 62 10 ⟨[1, 2, 3, 4, 5], (.cons (.ptr 0 0) (.cons (.ptr 1 0) (.cons (.ptr 2 0) (.cons (.ty yI) (.ptr 3 0))))), [.cells 107 0 (.cons (.ty .str) (.cons (.ty yI) (.cons (.ty yI) (.ty (.slice yBlock))))), .cells 47 0 (.cons (.ty .str) (.cons (.ty yI) (.cons (.ty yI) (.own 4)))), .cells 47 0 (.cons (.ty .str) (.cons (.ty yI) (.cons (.ty yI) (.own 5)))), .cells 91 0 (.cons (.ty (.slice yInsn)) (.cons (.ty yI) (.cons (.ty yI) (.cons (.ty yI) (.ty yI))))), .list 91 yBlock [], .list 91 yBlock []]⟩ noRefit)
noncomputable def l1.h : SSh := ⟨[1, 2, 3, 4, 5, 6], (.cons (.ptr 0 0) (.cons (.ptr 1 0) (.cons (.ptr 2 0) (.cons (.ty yI) (.cons (.ptr 3 0) (.ty yI)))))), [.cells 107 0 (.cons (.ty .str) (.cons (.ty yI) (.cons (.ty yI) (.ty (.slice yBlock))))), .cells 47 0 (.cons (.ty .str) (.cons (.ty yI) (.cons (.ty yI) (.own 4)))), .cells 47 0 (.cons (.ty .str) (.cons (.ty yI) (.cons (.ty yI) (.own 5)))), .cells 91 0 (.cons (.own 6) (.cons (.ty yI) (.cons (.ty yI) (.cons (.ty yI) (.ty yI))))), .list 91 yBlock [], .list 91 yBlock [], .list 144 yInsn []]⟩
noncomputable def l1.x : SSh := ⟨[1, 2, 3, 4, 5], (.cons (.ptr 0 0) (.cons (.ptr 1 0) (.cons (.ptr 2 0) (.cons (.ty yI) (.ptr 3 0))))), [.cells 107 0 (.cons (.ty .str) (.cons (.ty yI) (.cons (.ty yI) (.ty (.slice yBlock))))), .cells 47 0 (.cons (.ty .str) (.cons (.ty yI) (.cons (.ty yI) (.own 4)))), .cells 47 0 (.cons (.ty .str) (.cons (.ty yI) (.cons (.ty yI) (.own 5)))), .cells 91 0 (.cons (.own 6) (.cons (.ty yI) (.cons (.ty yI) (.cons (.ty yI) (.ty yI))))), .list 91 yBlock [], .list 91 yBlock [], .list 144 yInsn []]⟩
noncomputable def l1.cx : l1.h.I → (List LInsn) → l1.x.I := fun x r => (((), ((), ((), (x.1.2.2.2.1, ())))), ((x.2.1.1, (x.2.1.2.1, (x.2.1.2.2.1, x.2.1.2.2.2))), ((x.2.2.1.1, (x.2.2.1.2.1, (x.2.2.1.2.2.1, ()))), ((x.2.2.2.1.1, (x.2.2.2.1.2.1, (x.2.2.2.1.2.2.1, ()))), (((), (x.2.2.2.2.1.2.1, (x.2.2.2.2.1.2.2.1, (x.2.2.2.2.1.2.2.2.1, x.2.2.2.2.1.2.2.2.2)))), (x.2.2.2.2.2.1, (x.2.2.2.2.2.2.1, (r, ()))))))))
noncomputable def l1.f (K : Nat) : Nat → Int → Int → List LBlock → List LInsn → Option (List LInsn)
  | 0, _, _, _, _ => none
  | k + 1, a0, a1, a5, a18 => bif decide ((0 : Int) ≤ a0) && true then a5[a0.toNat]?.bind fun t => bif decide (a1 < (↑(List.length t.1) : Int)) then bif decide ((0 : Int) ≤ a0) && true then a5[a0.toNat]?.bind fun t => bif decide ((0 : Int) ≤ a1) && true then t.1[a1.toNat]?.bind fun t => (avermentlaw04_Insn.f K t.2.2.2.2.2).bind fun t_1 => bif (a18.length + [(t.1, t.2.1, t.2.2.1, t.2.2.2.1, t.2.2.2.2.1, t_1)].length).ble (100000 : Nat) then l1.f K k a0 (IntKind.i64.wrap (a1 + (1 : Int))) a5 (a18 ++ [(t.1, t.2.1, t.2.2.1, t.2.2.2.1, t.2.2.2.2.1, t_1)]) else none else none else none else some a18 else none
noncomputable def l1.F (K : Nat) (k : Nat) : l1.h.I → Option (List LInsn) := fun x => l1.f K k x.1.2.2.2.1 x.1.2.2.2.2.2 x.2.1.2.2.2 x.2.2.2.2.2.2.2.1
noncomputable def l1.lp {α : Type} (K : Nat) : St → Kn α → Option α := lpX 0 62 2 l1.h l1.x (l1.F K K) l1.cx
theorem l1.ok {α : Type} (K : Nat) : LoopOk (α := α) M 0 (nthLoop Tryz.f37 1) (l1.lp K) := lpX_okS (C := (C K)) (LP := noLoops) (RF := RF) (CP := noCuts) (L := 20) callsE_ok mxd (show RefitOk M 0 RF from (rfPut_ok (lb rfl) noRefit_ok)) noCuts_ok (noL (by kernel_rfl)) (lb rfl) (lb rfl) (fun x => rfl) fun k x => by
  rw [withCv_def]
  unfold l1.F
  rw [l1.f]
  try simp only [el]
  kernel_rfl
noncomputable def l0.h : SSh := ⟨[1, 2, 3, 4], (.cons (.ptr 0 0) (.cons (.ptr 1 0) (.cons (.ptr 2 0) (.ty yI)))), [.cells 107 0 (.cons (.ty .str) (.cons (.ty yI) (.cons (.ty yI) (.ty (.slice yBlock))))), .cells 47 0 (.cons (.ty .str) (.cons (.ty yI) (.cons (.ty yI) (.own 3)))), .cells 47 0 (.cons (.ty .str) (.cons (.ty yI) (.cons (.ty yI) (.own 4)))), .list 91 yBlock [], .list 91 yBlock []]⟩
noncomputable def l0.x : SSh := ⟨[2, 3], (.cons (.ptr 0 0) (.ptr 1 0)), [.cells 47 0 (.cons (.ty .str) (.cons (.ty yI) (.cons (.ty yI) (.own 2)))), .cells 47 0 (.cons (.ty .str) (.cons (.ty yI) (.cons (.ty yI) (.own 3)))), .list 91 yBlock [], .list 91 yBlock []]⟩
noncomputable def l0.cx : l0.h.I → (List LBlock) → l0.x.I := fun x r => (((), ()), ((x.2.2.1.1, (x.2.2.1.2.1, (x.2.2.1.2.2.1, ()))), ((x.2.2.2.1.1, (x.2.2.2.1.2.1, (x.2.2.2.1.2.2.1, ()))), (x.2.2.2.2.1, (r, ())))))
noncomputable def l0.f (K : Nat) : Nat → Int → List LBlock → List LBlock → Option (List LBlock)
  | 0, _, _, _ => none
  | k + 1, a0, a4, a12 => bif decide (a0 < (↑a4.length : Int)) then bif decide ((0 : Int) ≤ a0) && true then a4[a0.toNat]?.bind fun t => (avermentlaw04_End.f K).bind fun t_1 => (l1.f K K a0 (0 : Int) a4 []).bind fun t_2 => bif (a12.length + [(t_2, t.2.1, t.2.2.1, t.2.2.2.1, t.2.2.2.2)].length).ble (100000 : Nat) then l0.f K k (IntKind.i64.wrap (a0 + (1 : Int))) a4 (a12 ++ [(t_2, t.2.1, t.2.2.1, t.2.2.2.1, t.2.2.2.2)]) else none else none else some a12
noncomputable def l0.F (K : Nat) (k : Nat) : l0.h.I → Option (List LBlock) := fun x => l0.f K k x.1.2.2.2 x.2.1.2.2.2 x.2.2.2.2.2.1
noncomputable def l0.lp {α : Type} (K : Nat) : St → Kn α → Option α := lpX 0 62 0 l0.h l0.x (l0.F K K) l0.cx
theorem l0.ok {α : Type} (K : Nat) : LoopOk (α := α) M 0 (nthLoop Tryz.f37 0) (l0.lp K) := lpX_okS (C := (C K)) (LP := (lpPut 7 (l1.lp K) noLoops)) (RF := RF) (CP := noCuts) (L := 20) callsE_ok mxd (show RefitOk M 0 RF from (rfPut_ok (lb rfl) noRefit_ok)) noCuts_ok (show LoopsOk M 0 (lpPut 7 (l1.lp K) noLoops) (loopsOf (nthLoop Tryz.f37 0)) from (show loopsOf (nthLoop Tryz.f37 0) = [nthLoop Tryz.f37 1] by kernel_rfl) ▸ (loopsOk_put (key := 7) (by kernel_rfl) (l1.ok K) noLoops_ok (by kernel_rfl))) (lb rfl) (lb rfl) (fun x => rfl) fun k x => by
  rw [withCv_def]
  unfold l0.F
  rw [l0.f]
  try simp only [el]
  kernel_rfl
noncomputable def f (K : Nat) (a3 : List LBlock) : Option (List LBlock) := l0.f K K (0 : Int) a3 []
noncomputable def F (K : Nat) : sig.In → Option (List LBlock) := fun x => f K x.1.2.2.2
noncomputable def cv : sig.In → (List LBlock) → sig.Ou := fun x r => ((x.1.1, (x.1.2.1, (x.1.2.2.1, r))), ())
theorem rets (K : Nat) : ∀ x y, withCv (F K) cv x = some y → Rets M 37 sig x y := runF_retsS (C := (C K)) (LP := (lpPut 3 (l0.lp K) (lpPut 7 (l1.lp K) noLoops))) (RF := RF) (CP := noCuts) callsE_ok mxd (show RefitOk M 0 RF from (rfPut_ok (lb rfl) noRefit_ok)) noCuts_ok (show LoopsOk M 0 (lpPut 3 (l0.lp K) (lpPut 7 (l1.lp K) noLoops)) (loopsOf (bodyOf Tryz.f37)) from (show loopsOf (bodyOf Tryz.f37) = [nthLoop Tryz.f37 0, nthLoop Tryz.f37 1] by kernel_rfl) ▸ (loopsOk_put (key := 3) (by kernel_rfl) (l0.ok K) (loopsOk_put (key := 7) (by kernel_rfl) (l1.ok K) noLoops_ok (by kernel_rfl)) (by kernel_rfl))) (lb rfl) Tryz.func37 (by kernel_rfl) fun x => by
  rw [withCv_def]
  unfold F f
  try simp only [el]
  kernel_rfl
noncomputable def e (K : Nat) : En M := ⟨37, sig, _, F K, cv, by rfl, Tryz.f37, Tryz.func37, by kernel_rfl, rfl, rets K⟩
end avermentlaw04_Func
namespace avermentlaw04_To
noncomputable def sig : Sig := ⟨(.agg (.cons (.ty (.slice yI)) (.cons (.ty (.slice yFunc)) (.ty (.slice yImport))))), [], (.agg (.cons (.ty (.slice yI)) (.cons (.ty (.slice yFunc)) (.ty (.slice yImport))))), []⟩
noncomputable def C {α : Type} (K : Nat) : CallsBy α := callsE (M := M) [avermentlaw04_Func.e K]
noncomputable def l1.h : SSh := ⟨[1, 2, 3, 5], (.cons (.ptr 0 0) (.cons (.ptr 1 0) (.cons (.ptr 2 0) (.ty yI)))), [.cells 26 0 (.cons (.ty (.slice yI)) (.cons (.ty (.slice yFunc)) (.ty (.slice yImport)))), .cells 35 0 (.cons (.own 3) (.cons (.own 4) (.own 5))), .cells 35 0 (.cons (.own 6) (.cons (.own 7) (.own 8))), .list 2 yI [], .list 47 yFunc [], .list 110 yImport [], .list 2 yI [], .list 47 yFunc [], .list 110 yImport []]⟩
noncomputable def l1.x : SSh := ⟨[2, 3], (.cons (.ptr 0 0) (.ptr 1 0)), [.cells 35 0 (.cons (.own 2) (.cons (.own 3) (.own 4))), .cells 35 0 (.cons (.own 5) (.cons (.own 6) (.own 7))), .list 2 yI [], .list 47 yFunc [], .list 110 yImport [], .list 2 yI [], .list 47 yFunc [], .list 110 yImport []]⟩
noncomputable def l1.cx : l1.h.I → (List LImport) → l1.x.I := fun x r => (((), ()), (((), ((), ())), (((), ((), ())), (x.2.2.2.2.1, (x.2.2.2.2.2.1, (x.2.2.2.2.2.2.1, (x.2.2.2.2.2.2.2.1, (x.2.2.2.2.2.2.2.2.1, (r, ())))))))))
noncomputable def l1.f (K : Nat) : Nat → Int → List LImport → List LImport → Option (List LImport)
  | 0, _, _, _ => none
  | k + 1, a0, a3, a9 => bif decide (a0 < (↑a3.length : Int)) then bif decide ((0 : Int) ≤ a0) && true then a3[a0.toNat]?.bind fun t => bif decide ((0 : Int) ≤ a0) && true then a3[a0.toNat]?.bind fun t_1 => bif (a9.length + [(t.1, t_1.2)].length).ble (100000 : Nat) then l1.f K k (IntKind.i64.wrap (a0 + (1 : Int))) a3 (a9 ++ [(t.1, t_1.2)]) else none else none else none else some a9
noncomputable def l1.F (K : Nat) (k : Nat) : l1.h.I → Option (List LImport) := fun x => l1.f K k x.1.2.2.2 x.2.1.2.2 x.2.2.2.2.2.2.2.2.2.1
noncomputable def l1.lp {α : Type} (K : Nat) : St → Kn α → Option α := lpX 0 55 2 l1.h l1.x (l1.F K K) l1.cx
theorem l1.ok {α : Type} (K : Nat) : LoopOk (α := α) M 0 (nthLoop Tryz.f8 1) (l1.lp K) := lpX_okS (C := (C K)) (LP := noLoops) (RF := noRefit) (CP := noCuts) (L := 20) callsE_ok mxd noRefit_ok noCuts_ok (noL (by kernel_rfl)) (lb rfl) (lb rfl) (fun x => rfl) fun k x => by
  rw [withCv_def]
  unfold l1.F
  rw [l1.f]
  try simp only [el]
  kernel_rfl
noncomputable def l0.h : SSh := ⟨[1, 2, 3, 4], (.cons (.ptr 0 0) (.cons (.ptr 1 0) (.cons (.ptr 2 0) (.ty yI)))), [.cells 26 0 (.cons (.ty (.slice yI)) (.cons (.ty (.slice yFunc)) (.ty (.slice yImport)))), .cells 35 0 (.cons (.own 3) (.cons (.own 4) (.own 5))), .cells 35 0 (.cons (.own 6) (.cons (.own 7) (.own 8))), .list 2 yI [], .list 47 yFunc [], .list 110 yImport [], .list 2 yI [], .list 47 yFunc [], .list 110 yImport []]⟩
noncomputable def l0.x : SSh := ⟨[1, 2, 3], (.cons (.ptr 0 0) (.cons (.ptr 1 0) (.ptr 2 0))), [.cells 26 0 (.cons (.ty (.slice yI)) (.cons (.ty (.slice yFunc)) (.ty (.slice yImport)))), .cells 35 0 (.cons (.own 3) (.cons (.own 4) (.own 5))), .cells 35 0 (.cons (.own 6) (.cons (.own 7) (.own 8))), .list 2 yI [], .list 47 yFunc [], .list 110 yImport [], .list 2 yI [], .list 47 yFunc [], .list 110 yImport []]⟩
noncomputable def l0.cx : l0.h.I → (List LFunc) → l0.x.I := fun x r => (((), ((), ())), ((x.2.1.1, (x.2.1.2.1, x.2.1.2.2)), (((), ((), ())), (((), ((), ())), (x.2.2.2.2.1, (x.2.2.2.2.2.1, (x.2.2.2.2.2.2.1, (x.2.2.2.2.2.2.2.1, (r, (x.2.2.2.2.2.2.2.2.2.1, ()))))))))))
noncomputable def l0.f (K : Nat) : Nat → Int → List LFunc → List LFunc → Option (List LFunc)
  | 0, _, _, _ => none
  | k + 1, a0, a2, a8 => bif decide (a0 < (↑a2.length : Int)) then bif decide ((0 : Int) ≤ a0) && true then a2[a0.toNat]?.bind fun t => (avermentlaw04_Func.f K t.2.2.2).bind fun t_1 => bif (a8.length + [(t.1, t.2.1, t.2.2.1, t_1)].length).ble (100000 : Nat) then l0.f K k (IntKind.i64.wrap (a0 + (1 : Int))) a2 (a8 ++ [(t.1, t.2.1, t.2.2.1, t_1)]) else none else none else some a8
noncomputable def l0.F (K : Nat) (k : Nat) : l0.h.I → Option (List LFunc) := fun x => l0.f K k x.1.2.2.2 x.2.1.2.1 x.2.2.2.2.2.2.2.2.1
noncomputable def l0.lp {α : Type} (K : Nat) : St → Kn α → Option α := lpX 0 55 0 l0.h l0.x (l0.F K K) l0.cx
theorem l0.ok {α : Type} (K : Nat) : LoopOk (α := α) M 0 (nthLoop Tryz.f8 0) (l0.lp K) := lpX_okS (C := (C K)) (LP := noLoops) (RF := noRefit) (CP := noCuts) (L := 20) callsE_ok mxd noRefit_ok noCuts_ok (noL (by kernel_rfl)) (lb rfl) (lb rfl) (fun x => rfl) fun k x => by
  rw [withCv_def]
  unfold l0.F
  rw [l0.f]
  try simp only [el]
  kernel_rfl
noncomputable def f (K : Nat) (a0 : List Int) (a1 : List LFunc) (a2 : List LImport) : Option (List Int × List LFunc × List LImport) := bif ((0 : Nat) + a0.length).ble (100000 : Nat) then (l0.f K K (0 : Int) a1 []).bind fun t => (l1.f K K (0 : Int) a2 []).bind fun t_1 => some ([] ++ a0, t, t_1) else none
noncomputable def F (K : Nat) : sig.In → Option (List Int × List LFunc × List LImport) := fun x => f K x.1.1 x.1.2.1 x.1.2.2
noncomputable def cv : sig.In → (List Int × List LFunc × List LImport) → sig.Ou := fun x r => ((r.1, (r.2.1, r.2.2)), ())
theorem rets (K : Nat) : ∀ x y, withCv (F K) cv x = some y → Rets M 8 sig x y := runF_retsS (C := (C K)) (LP := (lpPut 3 (l0.lp K) (lpPut 7 (l1.lp K) noLoops))) (RF := noRefit) (CP := noCuts) callsE_ok mxd noRefit_ok noCuts_ok (show LoopsOk M 0 (lpPut 3 (l0.lp K) (lpPut 7 (l1.lp K) noLoops)) (loopsOf (bodyOf Tryz.f8)) from (show loopsOf (bodyOf Tryz.f8) = [nthLoop Tryz.f8 0, nthLoop Tryz.f8 1] by kernel_rfl) ▸ (loopsOk_put (key := 3) (by kernel_rfl) (l0.ok K) (loopsOk_put (key := 7) (by kernel_rfl) (l1.ok K) noLoops_ok (by kernel_rfl)) (by kernel_rfl))) (lb rfl) Tryz.func8 (by kernel_rfl) fun x => by
  rw [withCv_def]
  unfold F f
  try simp only [el]
  kernel_rfl
noncomputable def e (K : Nat) : En M := ⟨8, sig, _, F K, cv, by rfl, Tryz.f8, Tryz.func8, by kernel_rfl, rfl, rets K⟩
end avermentlaw04_To
namespace ir_named
noncomputable def sig : Sig := ⟨(.ty .str), [], (.ty .bool), []⟩
noncomputable def C {α : Type} (K : Nat) : CallsBy α := callsE (M := M) []
noncomputable def CP {α : Type} (K : Nat) : CutBy α := (cpPut 4 (rpCut M bindC [.bool, .bool] [5, 6] (C K) (eqBy M.P)) (cpPut 5 (rpCut M bindC [.bool] [36] (C K) (eqBy M.P)) (cpPut 8 (rpCut M bindC [.bool] [2] (C K) (eqBy M.P)) noCuts)))
theorem CP_ok {α : Type} (K : Nat) : CutsOk (α := α) M 0 (CP K) := (cpPut_ok (rpCut_ok callsE_ok (eqBy_ok _) mxd) (cpPut_ok (rpCut_ok callsE_ok (eqBy_ok _) mxd) (cpPut_ok (rpCut_ok callsE_ok (eqBy_ok _) mxd) noCuts_ok)))
noncomputable def l0.h : SSh := ⟨[0, 8, 9, 10], (.cons (.ty .str) (.cons (.ty (.slice (.int .u8))) (.cons (.ty yI) (.ty yI)))), []⟩
noncomputable def l0.x : SSh := ⟨[0], (.ty .str), []⟩
noncomputable def l0.r : SSh := ⟨[2], (.ty .bool), []⟩
noncomputable def l0.cx : l0.h.I → Unit → l0.x.I := fun x r => (x.1.1, ())
noncomputable def l0.cr : l0.h.I → Bool → l0.r.I := fun x r => (r, ())
noncomputable def l0.f (K : Nat) : Nat → List Int → Int → Int → Option ((Unit) ⊕ (Bool))
  | 0, _, _, _ => none
  | k + 1, a1, a2, a3 => bif decide (a3 < a2) then bif decide ((0 : Int) ≤ a3) && true then a1[a3.toNat]?.bind fun t => bindC (bif decide (t ≥ (97 : Int)) then bif decide (t ≥ (48 : Int)) then some (decide (t ≤ (122 : Int)), decide (t ≤ (57 : Int))) else some (decide (t ≤ (122 : Int)), false) else bif decide (t ≥ (48 : Int)) then some (false, decide (t ≤ (57 : Int))) else some (false, false)) fun t => bindC (bif !t.1 then bif !t.2 then some true else some (a3 == (0 : Int)) else some false) fun t => bif t then some (Sum.inr false) else l0.f K k a1 a2 (IntKind.i64.wrap (a3 + (1 : Int))) else none else some (Sum.inl ())
noncomputable def l0.F (K : Nat) (k : Nat) : l0.h.I → Option ((Unit) ⊕ (Bool)) := fun x => l0.f K k x.1.2.1 x.1.2.2.1 x.1.2.2.2
noncomputable def l0.lp {α : Type} (K : Nat) : St → Kn α → Option α := lpXRD 0 45 0 l0.h l0.x l0.r (l0.F K K) l0.cx l0.cr
theorem l0.ok {α : Type} (K : Nat) : LoopOk (α := α) M 0 (nthLoop Tryz.f138 0) (l0.lp K) := lpXRD_okS (C := (C K)) (LP := noLoops) (RF := noRefit) (CP := (CP K)) (L := 20) callsE_ok mxd noRefit_ok (CP_ok K) (noL (by kernel_rfl)) (lb rfl) (lb rfl) (lb rfl) (fun x => rfl) fun k x => by
  rw [withCv_def]
  unfold l0.F
  rw [l0.f]
  try simp only [el]
  kernel_rfl
noncomputable def f (K : Nat) (a0 : ByteArray) : Option (Bool) := bif a0.size.ble (100000 : Nat) then (l0.f K K (bytesOf a0) (↑(bytesOf a0).length : Int) (0 : Int)).bind fun t => Sum.elim (fun t => bindC (bif !a0.toList == (ByteArray.mk #[]).toList then some (decide ((↑a0.size : Int) ≤ (12 : Int))) else some false) fun t => some t) (fun t => some t) t else none
noncomputable def F (K : Nat) : sig.In → Option (Bool) := fun x => f K x.1
noncomputable def cv : sig.In → Bool → sig.Ou := fun x r => (r, ())
theorem rets (K : Nat) : ∀ x y, withCv (F K) cv x = some y → Rets M 138 sig x y := runF_retsS (C := (C K)) (LP := (lpPut 2 (l0.lp K) noLoops)) (RF := noRefit) (CP := (CP K)) callsE_ok mxd noRefit_ok (CP_ok K) (show LoopsOk M 0 (lpPut 2 (l0.lp K) noLoops) (loopsOf (bodyOf Tryz.f138)) from (show loopsOf (bodyOf Tryz.f138) = [nthLoop Tryz.f138 0] by kernel_rfl) ▸ (loopsOk_put (key := 2) (by kernel_rfl) (l0.ok K) noLoops_ok (by kernel_rfl))) (lb rfl) Tryz.func138 (by kernel_rfl) fun x => by
  rw [withCv_def]
  unfold F f
  try simp only [el]
  kernel_rfl
noncomputable def e (K : Nat) : En M := ⟨138, sig, _, F K, cv, by rfl, Tryz.f138, Tryz.func138, by kernel_rfl, rfl, rets K⟩
end ir_named
namespace ir_within
noncomputable def sig : Sig := ⟨(.cons (.ty yI) (.ty yI)), [], (.ty .bool), []⟩
noncomputable def C {α : Type} (K : Nat) : CallsBy α := callsE (M := M) []
noncomputable def CP {α : Type} (K : Nat) : CutBy α := (cpPut 1 (rpCut M bindC [.bool] [4] (C K) (eqBy M.P)) noCuts)
theorem CP_ok {α : Type} (K : Nat) : CutsOk (α := α) M 0 (CP K) := (cpPut_ok (rpCut_ok callsE_ok (eqBy_ok _) mxd) noCuts_ok)
noncomputable def f (K : Nat) (a0 : Int) (a1 : Int) : Option (Bool) := bindC (bif decide (a0 ≥ (0 : Int)) then some (decide (a0 < a1)) else some false) fun t => some t
noncomputable def F (K : Nat) : sig.In → Option (Bool) := fun x => f K x.1.1 x.1.2
noncomputable def cv : sig.In → Bool → sig.Ou := fun x r => (r, ())
theorem rets (K : Nat) : ∀ x y, withCv (F K) cv x = some y → Rets M 73 sig x y := runF_retsS (C := (C K)) (LP := noLoops) (RF := noRefit) (CP := (CP K)) callsE_ok mxd noRefit_ok (CP_ok K) (noL (by kernel_rfl)) (lb rfl) Tryz.func73 (by kernel_rfl) fun x => by
  rw [withCv_def]
  unfold F f
  try simp only [el]
  kernel_rfl
noncomputable def e (K : Nat) : En M := ⟨73, sig, _, F K, cv, by rfl, Tryz.f73, Tryz.func73, by kernel_rfl, rfl, rets K⟩
end ir_within
namespace ir_Name
noncomputable def sig : Sig := ⟨(.cons (.agg (.cons (.ty (.slice yI)) (.cons (.ty (.slice yFunc)) (.ty (.slice yImport))))) (.ty yI)), [], (.ty .str), []⟩
noncomputable def C {α : Type} (K : Nat) : CallsBy α := callsE (M := M) [ir_within.e K]
noncomputable def f (K : Nat) (a1 : List LFunc) (a2 : List LImport) (a3 : Int) : Option (ByteArray) := (ir_within.f K a3 (↑a1.length : Int)).bind fun t => bif t then bif decide ((0 : Int) ≤ a3) && true then a1[a3.toNat]?.bind fun t => some t.1 else none else (ir_within.f K (IntKind.i64.wrap (a3 - (↑a1.length : Int))) (↑a2.length : Int)).bind fun t => bif t then bif decide ((0 : Int) ≤ IntKind.i64.wrap (a3 - (↑a1.length : Int))) && true then a2[(IntKind.i64.wrap (a3 - (↑a1.length : Int))).toNat]?.bind fun t => some t.1 else none else some (ByteArray.mk #[])
noncomputable def F (K : Nat) : sig.In → Option (ByteArray) := fun x => f K x.1.1.2.1 x.1.1.2.2 x.1.2
noncomputable def cv : sig.In → ByteArray → sig.Ou := fun x r => (r, ())
theorem rets (K : Nat) : ∀ x y, withCv (F K) cv x = some y → Rets M 161 sig x y := runF_retsS (C := (C K)) (LP := noLoops) (RF := noRefit) (CP := noCuts) callsE_ok mxd noRefit_ok noCuts_ok (noL (by kernel_rfl)) (lb rfl) Tryz.func161 (by kernel_rfl) fun x => by
  rw [withCv_def]
  unfold F f
  try simp only [el]
  kernel_rfl
noncomputable def e (K : Nat) : En M := ⟨161, sig, _, F K, cv, by rfl, Tryz.f161, Tryz.func161, by kernel_rfl, rfl, rets K⟩
end ir_Name
namespace ir_Find
noncomputable def sig : Sig := ⟨(.cons (.agg (.cons (.ty (.slice yI)) (.cons (.ty (.slice yFunc)) (.ty (.slice yImport))))) (.ty .str)), [], (.ty yI), []⟩
noncomputable def C {α : Type} (K : Nat) : CallsBy α := callsE (M := M) [ir_Name.e K]
noncomputable def l0.h : SSh := ⟨[1, 2, 12, 13], (.cons (.ty .str) (.cons (.ptr 0 0) (.cons (.ty yI) (.ty yI)))), [.cells 35 0 (.cons (.ty (.slice yI)) (.cons (.ty (.slice yFunc)) (.ty (.slice yImport))))]⟩
noncomputable def l0.x : SSh := ⟨[], .unit, []⟩
noncomputable def l0.r : SSh := ⟨[4], (.ty yI), []⟩
noncomputable def l0.cx : l0.h.I → Unit → l0.x.I := fun x r => ((), ())
noncomputable def l0.cr : l0.h.I → Int → l0.r.I := fun x r => (r, ())
noncomputable def l0.f (K : Nat) : Nat → ByteArray → Int → Int → List LFunc → List LImport → Option ((Unit) ⊕ (Int))
  | 0, _, _, _, _, _ => none
  | k + 1, a0, a1, a2, a4, a5 => bif decide (a2 < a1) then (ir_Name.f K a4 a5 a2).bind fun t => bif t.toList == a0.toList then some (Sum.inr a2) else l0.f K k a0 a1 (IntKind.i64.wrap (a2 + (1 : Int))) a4 a5 else some (Sum.inl ())
noncomputable def l0.F (K : Nat) (k : Nat) : l0.h.I → Option ((Unit) ⊕ (Int)) := fun x => l0.f K k x.1.1 x.1.2.2.1 x.1.2.2.2 x.2.1.2.1 x.2.1.2.2
noncomputable def l0.lp {α : Type} (K : Nat) : St → Kn α → Option α := lpXRD 0 23 0 l0.h l0.x l0.r (l0.F K K) l0.cx l0.cr
theorem l0.ok {α : Type} (K : Nat) : LoopOk (α := α) M 0 (nthLoop Tryz.f139 0) (l0.lp K) := lpXRD_okS (C := (C K)) (LP := noLoops) (RF := noRefit) (CP := noCuts) (L := 20) callsE_ok mxd noRefit_ok noCuts_ok (noL (by kernel_rfl)) (lb rfl) (lb rfl) (lb rfl) (fun x => rfl) fun k x => by
  rw [withCv_def]
  unfold l0.F
  rw [l0.f]
  try simp only [el]
  kernel_rfl
noncomputable def f (K : Nat) (a1 : List LFunc) (a2 : List LImport) (a3 : ByteArray) : Option (Int) := (l0.f K K a3 (IntKind.i64.wrap ((↑a1.length : Int) + (↑a2.length : Int))) (0 : Int) a1 a2).bind fun t => Sum.elim (fun t => some (-1 : Int)) (fun t => some t) t
noncomputable def F (K : Nat) : sig.In → Option (Int) := fun x => f K x.1.1.2.1 x.1.1.2.2 x.1.2
noncomputable def cv : sig.In → Int → sig.Ou := fun x r => (r, ())
theorem rets (K : Nat) : ∀ x y, withCv (F K) cv x = some y → Rets M 139 sig x y := runF_retsS (C := (C K)) (LP := (lpPut 2 (l0.lp K) noLoops)) (RF := noRefit) (CP := noCuts) callsE_ok mxd noRefit_ok noCuts_ok (show LoopsOk M 0 (lpPut 2 (l0.lp K) noLoops) (loopsOf (bodyOf Tryz.f139)) from (show loopsOf (bodyOf Tryz.f139) = [nthLoop Tryz.f139 0] by kernel_rfl) ▸ (loopsOk_put (key := 2) (by kernel_rfl) (l0.ok K) noLoops_ok (by kernel_rfl))) (lb rfl) Tryz.func139 (by kernel_rfl) fun x => by
  rw [withCv_def]
  unfold F f
  try simp only [el]
  kernel_rfl
noncomputable def e (K : Nat) : En M := ⟨139, sig, _, F K, cv, by rfl, Tryz.f139, Tryz.func139, by kernel_rfl, rfl, rets K⟩
end ir_Find
namespace ir_Module_first
noncomputable def sig : Sig := ⟨(.cons (.agg (.cons (.ty (.slice yI)) (.cons (.ty (.slice yFunc)) (.ty (.slice yImport))))) (.ty yI)), [], (.ty yI), []⟩
noncomputable def C {α : Type} (K : Nat) : CallsBy α := callsE (M := M) [ir_named.e K, ir_Find.e K, ir_within.e K]
noncomputable def CP {α : Type} (K : Nat) : CutBy α := (cpPut 8 (rpCut M bindC [.bool] [28] (C K) (eqBy M.P)) (cpPut 10 (rpCut M bindC [.bool] [40] (C K) (eqBy M.P)) noCuts))
theorem CP_ok {α : Type} (K : Nat) : CutsOk (α := α) M 0 (CP K) := (cpPut_ok (rpCut_ok callsE_ok (eqBy_ok _) mxd) (cpPut_ok (rpCut_ok callsE_ok (eqBy_ok _) mxd) noCuts_ok))
noncomputable def f (K : Nat) (a1 : List LFunc) (a2 : List LImport) (a3 : Int) : Option (Int) := bif decide ((0 : Int) ≤ a3) && true then a1[a3.toNat]?.bind fun t => (ir_named.f K t.1).bind fun t_1 => bif !t_1 then some (6 : Int) else (ir_Find.f K a1 a2 t.1).bind fun t_2 => bif decide (t_2 < a3) then some (7 : Int) else (ir_within.f K t.2.1 (5 : Int)).bind fun t_3 => bif !t_3 then some (10 : Int) else bindC (bif decide (t.2.2.1 < if (1 : Int) > t.2.1 then (1 : Int) else t.2.1) then some true else some (decide (t.2.2.1 > (8 : Int)))) fun t_4 => bif t_4 then some (9 : Int) else bindC (bif decide ((↑(List.length t.2.2.2) : Int) < (1 : Int)) then some true else some (decide ((↑(List.length t.2.2.2) : Int) > (12 : Int)))) fun t => bif t then some (11 : Int) else some (0 : Int) else none
noncomputable def F (K : Nat) : sig.In → Option (Int) := fun x => f K x.1.1.2.1 x.1.1.2.2 x.1.2
noncomputable def cv : sig.In → Int → sig.Ou := fun x r => (r, ())
theorem rets (K : Nat) : ∀ x y, withCv (F K) cv x = some y → Rets M 136 sig x y := runF_retsS (C := (C K)) (LP := noLoops) (RF := noRefit) (CP := (CP K)) callsE_ok mxd noRefit_ok (CP_ok K) (noL (by kernel_rfl)) (lb rfl) Tryz.func136 (by kernel_rfl) fun x => by
  rw [withCv_def]
  unfold F f
  try simp only [el]
  kernel_rfl
noncomputable def e (K : Nat) : En M := ⟨136, sig, _, F K, cv, by rfl, Tryz.f136, Tryz.func136, by kernel_rfl, rfl, rets K⟩
end ir_Module_first
namespace ir_Insn_fields
noncomputable def sig : Sig := ⟨(.agg (.cons (.ty yI) (.cons (.ty yI) (.cons (.ty yI) (.cons (.ty yI) (.cons (.ty yI) (.ty (.slice yI)))))))), [], (.cons (.agg (.cons (.ty .bool) (.cons (.ty .bool) (.cons (.ty .bool) (.ty .bool))))) (.ty .bool)), []⟩
noncomputable def C {α : Type} (K : Nat) : CallsBy α := callsE (M := M) []
noncomputable def f (K : Nat) (a0 : Int) : Option (Bool × Bool × Bool × Bool × Bool) := bif a0 == (4 : Int) then some (true, true, true, false, true) else bif a0 == (5 : Int) then some (true, true, true, false, true) else bif a0 == (6 : Int) then some (true, true, true, false, true) else bif a0 == (7 : Int) then some (true, true, true, false, true) else bif a0 == (8 : Int) then some (true, true, true, false, true) else bif a0 == (9 : Int) then some (true, true, true, false, true) else bif a0 == (10 : Int) then some (true, true, true, false, true) else bif a0 == (11 : Int) then some (true, true, true, false, true) else bif a0 == (12 : Int) then some (true, true, true, false, true) else bif a0 == (2 : Int) then some (true, true, false, false, true) else bif a0 == (3 : Int) then some (true, true, false, false, true) else bif a0 == (1 : Int) then some (true, false, false, false, true) else bif a0 == (15 : Int) then some (true, false, false, false, true) else bif a0 == (13 : Int) then some (true, false, false, true, true) else bif a0 == (17 : Int) then some (true, false, false, true, true) else bif a0 == (14 : Int) then some (false, true, false, true, true) else bif a0 == (16 : Int) then some (false, true, false, false, true) else some (false, false, false, false, false)
noncomputable def F (K : Nat) : sig.In → Option (Bool × Bool × Bool × Bool × Bool) := fun x => f K x.1.1
noncomputable def cv : sig.In → (Bool × Bool × Bool × Bool × Bool) → sig.Ou := fun x r => (((r.1, (r.2.1, (r.2.2.1, r.2.2.2.1))), r.2.2.2.2), ())
theorem rets (K : Nat) : ∀ x y, withCv (F K) cv x = some y → Rets M 154 sig x y := runF_retsS (C := (C K)) (LP := noLoops) (RF := noRefit) (CP := noCuts) callsE_ok mxd noRefit_ok noCuts_ok (noL (by kernel_rfl)) (lb rfl) Tryz.func154 (by kernel_rfl) fun x => by
  rw [withCv_def]
  unfold F f
  try simp only [el]
  kernel_rfl
noncomputable def e (K : Nat) : En M := ⟨154, sig, _, F K, cv, by rfl, Tryz.f154, Tryz.func154, by kernel_rfl, rfl, rets K⟩
end ir_Insn_fields
namespace ir_Insn_spare
noncomputable def sig : Sig := ⟨(.cons (.agg (.cons (.ty yI) (.cons (.ty yI) (.cons (.ty yI) (.cons (.ty yI) (.cons (.ty yI) (.ty (.slice yI)))))))) (.agg (.cons (.ty .bool) (.cons (.ty .bool) (.cons (.ty .bool) (.ty .bool)))))), [], (.ty .bool), []⟩
noncomputable def C {α : Type} (K : Nat) : CallsBy α := callsE (M := M) []
noncomputable def CP {α : Type} (K : Nat) : CutBy α := (cpPut 1 (rpCut M bindC [.bool] [4] (C K) (eqBy M.P)) noCuts)
theorem CP_ok {α : Type} (K : Nat) : CutsOk (α := α) M 0 (CP K) := (cpPut_ok (rpCut_ok callsE_ok (eqBy_ok _) mxd) noCuts_ok)
noncomputable def f (K : Nat) (a0 : Int) (a1 : Int) (a2 : Int) (a3 : Int) (a4 : Int) (a5 : List Int) (a6 : Bool) (a7 : Bool) (a8 : Bool) (a9 : Bool) : Option (Bool) := bindC (bif !a6 then bif a1 != (0 : Int) then some true else bif !a7 then bif a2 != (0 : Int) then some true else bif !a8 then bif !a9 then bif a3 != (0 : Int) then some true else bif a0 != (1 : Int) then bif a4 != (0 : Int) then some true else bif a0 != (17 : Int) then some (decide ((↑a5.length : Int) > (0 : Int))) else some false else bif a0 != (17 : Int) then some (decide ((↑a5.length : Int) > (0 : Int))) else some false else bif a0 != (1 : Int) then bif a4 != (0 : Int) then some true else bif a0 != (17 : Int) then some (decide ((↑a5.length : Int) > (0 : Int))) else some false else bif a0 != (17 : Int) then some (decide ((↑a5.length : Int) > (0 : Int))) else some false else bif a0 != (1 : Int) then bif a4 != (0 : Int) then some true else bif a0 != (17 : Int) then some (decide ((↑a5.length : Int) > (0 : Int))) else some false else bif a0 != (17 : Int) then some (decide ((↑a5.length : Int) > (0 : Int))) else some false else bif !a8 then bif !a9 then bif a3 != (0 : Int) then some true else bif a0 != (1 : Int) then bif a4 != (0 : Int) then some true else bif a0 != (17 : Int) then some (decide ((↑a5.length : Int) > (0 : Int))) else some false else bif a0 != (17 : Int) then some (decide ((↑a5.length : Int) > (0 : Int))) else some false else bif a0 != (1 : Int) then bif a4 != (0 : Int) then some true else bif a0 != (17 : Int) then some (decide ((↑a5.length : Int) > (0 : Int))) else some false else bif a0 != (17 : Int) then some (decide ((↑a5.length : Int) > (0 : Int))) else some false else bif a0 != (1 : Int) then bif a4 != (0 : Int) then some true else bif a0 != (17 : Int) then some (decide ((↑a5.length : Int) > (0 : Int))) else some false else bif a0 != (17 : Int) then some (decide ((↑a5.length : Int) > (0 : Int))) else some false else bif !a7 then bif a2 != (0 : Int) then some true else bif !a8 then bif !a9 then bif a3 != (0 : Int) then some true else bif a0 != (1 : Int) then bif a4 != (0 : Int) then some true else bif a0 != (17 : Int) then some (decide ((↑a5.length : Int) > (0 : Int))) else some false else bif a0 != (17 : Int) then some (decide ((↑a5.length : Int) > (0 : Int))) else some false else bif a0 != (1 : Int) then bif a4 != (0 : Int) then some true else bif a0 != (17 : Int) then some (decide ((↑a5.length : Int) > (0 : Int))) else some false else bif a0 != (17 : Int) then some (decide ((↑a5.length : Int) > (0 : Int))) else some false else bif a0 != (1 : Int) then bif a4 != (0 : Int) then some true else bif a0 != (17 : Int) then some (decide ((↑a5.length : Int) > (0 : Int))) else some false else bif a0 != (17 : Int) then some (decide ((↑a5.length : Int) > (0 : Int))) else some false else bif !a8 then bif !a9 then bif a3 != (0 : Int) then some true else bif a0 != (1 : Int) then bif a4 != (0 : Int) then some true else bif a0 != (17 : Int) then some (decide ((↑a5.length : Int) > (0 : Int))) else some false else bif a0 != (17 : Int) then some (decide ((↑a5.length : Int) > (0 : Int))) else some false else bif a0 != (1 : Int) then bif a4 != (0 : Int) then some true else bif a0 != (17 : Int) then some (decide ((↑a5.length : Int) > (0 : Int))) else some false else bif a0 != (17 : Int) then some (decide ((↑a5.length : Int) > (0 : Int))) else some false else bif a0 != (1 : Int) then bif a4 != (0 : Int) then some true else bif a0 != (17 : Int) then some (decide ((↑a5.length : Int) > (0 : Int))) else some false else bif a0 != (17 : Int) then some (decide ((↑a5.length : Int) > (0 : Int))) else some false) fun t => some t
noncomputable def F (K : Nat) : sig.In → Option (Bool) := fun (x : (((Int × (Int × (Int × (Int × (Int × (List Int)))))) × (Bool × (Bool × (Bool × Bool)))) × Unit)) => f K x.1.1.1 x.1.1.2.1 x.1.1.2.2.1 x.1.1.2.2.2.1 x.1.1.2.2.2.2.1 x.1.1.2.2.2.2.2 x.1.2.1 x.1.2.2.1 x.1.2.2.2.1 x.1.2.2.2.2
noncomputable def cv : sig.In → Bool → sig.Ou := fun x r => (r, ())
theorem rets (K : Nat) : ∀ x y, withCv (F K) cv x = some y → Rets M 189 sig x y := runF_retsS (C := (C K)) (LP := noLoops) (RF := noRefit) (CP := (CP K)) callsE_ok mxd noRefit_ok (CP_ok K) (noL (by kernel_rfl)) (lb rfl) Tryz.func189 (by kernel_rfl) fun (x : (((Int × (Int × (Int × (Int × (Int × (List Int)))))) × (Bool × (Bool × (Bool × Bool)))) × Unit)) => by
  refine Eq.trans ?_ withCv_def.symm
  unfold F f
  try simp only [el]
  kernel_rfl
noncomputable def e (K : Nat) : En M := ⟨189, sig, _, F K, cv, by rfl, Tryz.f189, Tryz.func189, by kernel_rfl, rfl, rets K⟩
end ir_Insn_spare
namespace ir_Arity
noncomputable def sig : Sig := ⟨(.cons (.agg (.cons (.ty (.slice yI)) (.cons (.ty (.slice yFunc)) (.ty (.slice yImport))))) (.ty yI)), [], (.ty yI), []⟩
noncomputable def C {α : Type} (K : Nat) : CallsBy α := callsE (M := M) [ir_within.e K]
noncomputable def CP {α : Type} (K : Nat) : CutBy α := (cpPut 4 (rpCut M bindC [.bool] [23] (C K) (eqBy M.P)) noCuts)
theorem CP_ok {α : Type} (K : Nat) : CutsOk (α := α) M 0 (CP K) := (cpPut_ok (rpCut_ok callsE_ok (eqBy_ok _) mxd) noCuts_ok)
noncomputable def f (K : Nat) (a1 : List LFunc) (a2 : List LImport) (a3 : Int) : Option (Int) := (ir_within.f K a3 (↑a1.length : Int)).bind fun t => bif t then bif decide ((0 : Int) ≤ a3) && true then a1[a3.toNat]?.bind fun t => some t.2.1 else none else bindC (bif decide (a3 ≥ (0 : Int)) then (ir_within.f K (IntKind.i64.wrap (a3 - (↑a1.length : Int))) (↑a2.length : Int)).bind fun t => some t else some false) fun t => bif t then bif decide ((0 : Int) ≤ IntKind.i64.wrap (a3 - (↑a1.length : Int))) && true then a2[(IntKind.i64.wrap (a3 - (↑a1.length : Int))).toNat]?.bind fun t => some t.2 else none else some (-1 : Int)
noncomputable def F (K : Nat) : sig.In → Option (Int) := fun x => f K x.1.1.2.1 x.1.1.2.2 x.1.2
noncomputable def cv : sig.In → Int → sig.Ou := fun x r => (r, ())
theorem rets (K : Nat) : ∀ x y, withCv (F K) cv x = some y → Rets M 60 sig x y := runF_retsS (C := (C K)) (LP := noLoops) (RF := noRefit) (CP := (CP K)) callsE_ok mxd noRefit_ok (CP_ok K) (noL (by kernel_rfl)) (lb rfl) Tryz.func60 (by kernel_rfl) fun x => by
  rw [withCv_def]
  unfold F f
  try simp only [el]
  kernel_rfl
noncomputable def e (K : Nat) : En M := ⟨60, sig, _, F K, cv, by rfl, Tryz.f60, Tryz.func60, by kernel_rfl, rfl, rets K⟩
end ir_Arity
namespace ir_Module_insn_1
noncomputable def sig : Sig := ⟨(.cons (.ty yI) (.ptr 0 0)), [.cells 47 0 (.cons (.ty .str) (.cons (.ty yI) (.cons (.ty yI) (.ty (.slice yBlock)))))], (.ty .bool), [.cells 47 0 (.cons (.ty .str) (.cons (.ty yI) (.cons (.ty yI) (.ty (.slice yBlock)))))]⟩
noncomputable def C {α : Type} (K : Nat) : CallsBy α := callsE (M := M) [ir_within.e K]
noncomputable def f (K : Nat) (a0 : Int) (a3 : Int) : Option (Bool) := (ir_within.f K a0 a3).bind fun t => some !t
noncomputable def F (K : Nat) : sig.In → Option (Bool) := fun x => f K x.1.1 x.2.1.2.2.1
noncomputable def cv : sig.In → Bool → sig.Ou := fun x r => (r, ((x.2.1.1, (x.2.1.2.1, (x.2.1.2.2.1, x.2.1.2.2.2))), ()))
theorem rets (K : Nat) : ∀ x y, withCv (F K) cv x = some y → Rets M 191 sig x y := runF_retsS (C := (C K)) (LP := noLoops) (RF := noRefit) (CP := noCuts) callsE_ok mxd noRefit_ok noCuts_ok (noL (by kernel_rfl)) (lb rfl) Tryz.func191 (by kernel_rfl) fun x => by
  rw [withCv_def]
  unfold F f
  try simp only [el]
  kernel_rfl
noncomputable def e (K : Nat) : En M := ⟨191, sig, _, F K, cv, by rfl, Tryz.f191, Tryz.func191, by kernel_rfl, rfl, rets K⟩
end ir_Module_insn_1
namespace slices_IndexFunc_int_int
noncomputable def sig : Sig := ⟨(.cons (.ty (.slice yI)) (.fn 191 .unit (.ptr 0 0))), [.cells 47 0 (.cons (.ty .str) (.cons (.ty yI) (.cons (.ty yI) (.ty (.slice yBlock)))))], (.ty yI), [.cells 47 0 (.cons (.ty .str) (.cons (.ty yI) (.cons (.ty yI) (.ty (.slice yBlock)))))]⟩
noncomputable def C {α : Type} (K : Nat) : CallsBy α := callsE (M := M) [ir_Module_insn_1.e K]
noncomputable def l0.h : SSh := ⟨[0, 1, 7, 8], (.cons (.ty (.slice yI)) (.cons (.fn 191 .unit (.ptr 0 0)) (.cons (.ty yI) (.ty yI)))), [.cells 47 0 (.cons (.ty .str) (.cons (.ty yI) (.cons (.ty yI) (.ty (.slice yBlock)))))]⟩
noncomputable def l0.x : SSh := ⟨[], .unit, [.cells 47 0 (.cons (.ty .str) (.cons (.ty yI) (.cons (.ty yI) (.ty (.slice yBlock)))))]⟩
noncomputable def l0.r : SSh := ⟨[4], (.ty yI), [.cells 47 0 (.cons (.ty .str) (.cons (.ty yI) (.cons (.ty yI) (.ty (.slice yBlock)))))]⟩
noncomputable def l0.cx : l0.h.I → Unit → l0.x.I := fun x r => ((), ((x.2.1.1, (x.2.1.2.1, (x.2.1.2.2.1, x.2.1.2.2.2))), ()))
noncomputable def l0.cr : l0.h.I → Int → l0.r.I := fun x r => (r, ((x.2.1.1, (x.2.1.2.1, (x.2.1.2.2.1, x.2.1.2.2.2))), ()))
noncomputable def l0.f (K : Nat) : Nat → List Int → Int → Int → Int → Option ((Unit) ⊕ (Int))
  | 0, _, _, _, _ => none
  | k + 1, a0, a1, a2, a5 => bif decide (a2 < a1) then bif decide ((0 : Int) ≤ a2) && true then a0[a2.toNat]?.bind fun t => (ir_Module_insn_1.f K t a5).bind fun t => bif t then some (Sum.inr a2) else l0.f K k a0 a1 (IntKind.i64.wrap (a2 + (1 : Int))) a5 else none else some (Sum.inl ())
noncomputable def l0.F (K : Nat) (k : Nat) : l0.h.I → Option ((Unit) ⊕ (Int)) := fun x => l0.f K k x.1.1 x.1.2.2.1 x.1.2.2.2 x.2.1.2.2.1
noncomputable def l0.lp {α : Type} (K : Nat) : St → Kn α → Option α := lpXRD 1 19 0 l0.h l0.x l0.r (l0.F K K) l0.cx l0.cr
theorem l0.ok {α : Type} (K : Nat) : LoopOk (α := α) M 1 (nthLoop Tryz.f214 0) (l0.lp K) := lpXRD_okS (C := (C K)) (LP := noLoops) (RF := noRefit) (CP := noCuts) (L := 20) callsE_ok mxd noRefit_ok noCuts_ok (noL (by kernel_rfl)) (lb rfl) (lb rfl) (lb rfl) (fun x => rfl) fun k x => by
  rw [withCv_def]
  unfold l0.F
  rw [l0.f]
  try simp only [el]
  kernel_rfl
noncomputable def f (K : Nat) (a0 : List Int) (a3 : Int) : Option (Int) := (l0.f K K a0 (↑a0.length : Int) (0 : Int) a3).bind fun t => Sum.elim (fun t => some (-1 : Int)) (fun t => some t) t
noncomputable def F (K : Nat) : sig.In → Option (Int) := fun x => f K x.1.1 x.2.1.2.2.1
noncomputable def cv : sig.In → Int → sig.Ou := fun x r => (r, ((x.2.1.1, (x.2.1.2.1, (x.2.1.2.2.1, x.2.1.2.2.2))), ()))
theorem rets (K : Nat) : ∀ x y, withCv (F K) cv x = some y → Rets M 214 sig x y := runF_retsS (C := (C K)) (LP := (lpPut 2 (l0.lp K) noLoops)) (RF := noRefit) (CP := noCuts) callsE_ok mxd noRefit_ok noCuts_ok (show LoopsOk M 1 (lpPut 2 (l0.lp K) noLoops) (loopsOf (bodyOf Tryz.f214)) from (show loopsOf (bodyOf Tryz.f214) = [nthLoop Tryz.f214 0] by kernel_rfl) ▸ (loopsOk_put (key := 2) (by kernel_rfl) (l0.ok K) noLoops_ok (by kernel_rfl))) (lb rfl) Tryz.func214 (by kernel_rfl) fun x => by
  rw [withCv_def]
  unfold F f
  try simp only [el]
  kernel_rfl
noncomputable def e (K : Nat) : En M := ⟨214, sig, _, F K, cv, by rfl, Tryz.f214, Tryz.func214, by kernel_rfl, rfl, rets K⟩
end slices_IndexFunc_int_int
namespace slices_ContainsFunc_int_int
noncomputable def sig : Sig := ⟨(.cons (.ty (.slice yI)) (.fn 191 .unit (.ptr 0 0))), [.cells 47 0 (.cons (.ty .str) (.cons (.ty yI) (.cons (.ty yI) (.ty (.slice yBlock)))))], (.ty .bool), [.cells 47 0 (.cons (.ty .str) (.cons (.ty yI) (.cons (.ty yI) (.ty (.slice yBlock)))))]⟩
noncomputable def C {α : Type} (K : Nat) : CallsBy α := callsE (M := M) [slices_IndexFunc_int_int.e K]
noncomputable def f (K : Nat) (a0 : List Int) (a3 : Int) : Option (Bool) := (slices_IndexFunc_int_int.f K a0 a3).bind fun t => some (decide (t ≥ (0 : Int)))
noncomputable def F (K : Nat) : sig.In → Option (Bool) := fun x => f K x.1.1 x.2.1.2.2.1
noncomputable def cv : sig.In → Bool → sig.Ou := fun x r => (r, ((x.2.1.1, (x.2.1.2.1, (x.2.1.2.2.1, x.2.1.2.2.2))), ()))
theorem rets (K : Nat) : ∀ x y, withCv (F K) cv x = some y → Rets M 190 sig x y := runF_retsS (C := (C K)) (LP := noLoops) (RF := noRefit) (CP := noCuts) callsE_ok mxd noRefit_ok noCuts_ok (noL (by kernel_rfl)) (lb rfl) Tryz.func190 (by kernel_rfl) fun x => by
  rw [withCv_def]
  unfold F f
  try simp only [el]
  kernel_rfl
noncomputable def e (K : Nat) : En M := ⟨190, sig, _, F K, cv, by rfl, Tryz.f190, Tryz.func190, by kernel_rfl, rfl, rets K⟩
end slices_ContainsFunc_int_int
namespace ir_Module_insn
noncomputable def sig : Sig := ⟨(.cons (.agg (.cons (.ty (.slice yI)) (.cons (.ty (.slice yFunc)) (.ty (.slice yImport))))) (.cons (.agg (.cons (.ty .str) (.cons (.ty yI) (.cons (.ty yI) (.ty (.slice yBlock)))))) (.agg (.cons (.ty yI) (.cons (.ty yI) (.cons (.ty yI) (.cons (.ty yI) (.cons (.ty yI) (.ty (.slice yI)))))))))), [], (.ty yI), []⟩
noncomputable def C {α : Type} (K : Nat) : CallsBy α := callsE (M := M) [ir_Insn_fields.e K, ir_Insn_spare.e K, ir_within.e K, ir_Arity.e K, slices_ContainsFunc_int_int.e K]
noncomputable def CP {α : Type} (K : Nat) : CutBy α := (cpPut 6 (rpCut M bindC [.bool] [21] (C K) (eqBy M.P)) (cpPut 7 (rpCut M bindC [.bool] [21] (C K) (eqBy M.P)) (cpPut 8 (rpCut M bindC [.bool] [21] (C K) (eqBy M.P)) (cpPut 10 (rpCut M bindC [.bool] [52] (C K) (eqBy M.P)) noCuts))))
theorem CP_ok {α : Type} (K : Nat) : CutsOk (α := α) M 0 (CP K) := (cpPut_ok (rpCut_ok callsE_ok (eqBy_ok _) mxd) (cpPut_ok (rpCut_ok callsE_ok (eqBy_ok _) mxd) (cpPut_ok (rpCut_ok callsE_ok (eqBy_ok _) mxd) (cpPut_ok (rpCut_ok callsE_ok (eqBy_ok _) mxd) noCuts_ok))))
noncomputable def f (K : Nat) (a0 : List Int) (a1 : List LFunc) (a2 : List LImport) (a5 : Int) (a7 : Int) (a8 : Int) (a9 : Int) (a10 : Int) (a11 : Int) (a12 : List Int) : Option (Int) := (ir_Insn_fields.f K a7).bind fun t => bif !t.2.2.2.2 then some (5 : Int) else (ir_Insn_spare.f K a7 a8 a9 a10 a11 a12 t.1 t.2.1 t.2.2.1 t.2.2.2.1).bind fun t_1 => bif t_1 then some (3 : Int) else bindC (bif t.1 then (ir_within.f K a8 a5).bind fun t => some !t else some false) fun t_2 => bif t_2 then some (9 : Int) else bindC (bif t.2.1 then (ir_within.f K a9 a5).bind fun t => some !t else some false) fun t_3 => bif t_3 then some (9 : Int) else bindC (bif t.2.2.1 then (ir_within.f K a10 a5).bind fun t => some !t else some false) fun t => bif t then some (9 : Int) else bindC (bif a7 == (13 : Int) then (ir_within.f K a10 (↑a0.length : Int)).bind fun t => some !t else bif a7 == (14 : Int) then (ir_within.f K a10 (↑a0.length : Int)).bind fun t => some !t else some false) fun t => bif t then some (4 : Int) else bif a7 != (17 : Int) then some (0 : Int) else (ir_Arity.f K a1 a2 a10).bind fun t => bif t == (-1 : Int) then some (7 : Int) else (ir_Arity.f K a1 a2 a10).bind fun t => bif (↑a12.length : Int) != t then some (10 : Int) else (slices_ContainsFunc_int_int.f K a12 a5).bind fun t => bif t then some (9 : Int) else some (0 : Int)
noncomputable def F (K : Nat) : sig.In → Option (Int) := fun x => f K x.1.1.1 x.1.1.2.1 x.1.1.2.2 x.1.2.1.2.2.1 x.1.2.2.1 x.1.2.2.2.1 x.1.2.2.2.2.1 x.1.2.2.2.2.2.1 x.1.2.2.2.2.2.2.1 x.1.2.2.2.2.2.2.2
noncomputable def cv : sig.In → Int → sig.Ou := fun x r => (r, ())
theorem rets (K : Nat) : ∀ x y, withCv (F K) cv x = some y → Rets M 159 sig x y := runF_retsS (C := (C K)) (LP := noLoops) (RF := noRefit) (CP := (CP K)) callsE_ok mxd noRefit_ok (CP_ok K) (noL (by kernel_rfl)) (lb rfl) Tryz.func159 (by kernel_rfl) fun x => by
  rw [withCv_def]
  unfold F f
  try simp only [el]
  kernel_rfl
noncomputable def e (K : Nat) : En M := ⟨159, sig, _, F K, cv, by rfl, Tryz.f159, Tryz.func159, by kernel_rfl, rfl, rets K⟩
end ir_Module_insn
namespace fault_At
noncomputable def sig : Sig := ⟨(.cons (.ty .err) (.ty (.slice yI))), [], (.ty .err), []⟩
noncomputable def C {α : Type} (K : Nat) : CallsBy α := callsE (M := M) []
noncomputable def l0.h : SSh := ⟨[0, 1, 5], (.cons (.ty .err) (.cons (.ty (.slice yI)) (.ty yI))), []⟩
noncomputable def l0.x : SSh := ⟨[0], (.ty .err), []⟩
noncomputable def l0.cx : l0.h.I → Err → l0.x.I := fun x r => (r, ())
noncomputable def l0.f (K : Nat) : Nat → Err → List Int → Int → Option (Err)
  | 0, _, _, _ => none
  | k + 1, a0, a1, a2 => bif decide (a2 ≥ (0 : Int)) then bif decide ((0 : Int) ≤ a2) && true then a1[a2.toNat]?.bind fun t => l0.f K k (Err.at t a0) a1 (IntKind.i64.wrap (a2 - (1 : Int))) else none else some a0
noncomputable def l0.F (K : Nat) (k : Nat) : l0.h.I → Option (Err) := fun x => l0.f K k x.1.1 x.1.2.1 x.1.2.2
noncomputable def l0.lp {α : Type} (K : Nat) : St → Kn α → Option α := lpX 0 24 0 l0.h l0.x (l0.F K K) l0.cx
theorem l0.ok {α : Type} (K : Nat) : LoopOk (α := α) M 0 (nthLoop Tryz.f93 0) (l0.lp K) := lpX_okS (C := (C K)) (LP := noLoops) (RF := noRefit) (CP := noCuts) (L := 20) callsE_ok mxd noRefit_ok noCuts_ok (noL (by kernel_rfl)) (lb rfl) (lb rfl) (fun x => rfl) fun k x => by
  rw [withCv_def]
  unfold l0.F
  rw [l0.f]
  try simp only [el]
  kernel_rfl
noncomputable def f (K : Nat) (a0 : Err) (a1 : List Int) : Option (Err) := bif bif false then !a0.isNil else a0.isNil then some Err.nil else l0.f K K a0 a1 (IntKind.i64.wrap ((↑a1.length : Int) - (1 : Int)))
noncomputable def F (K : Nat) : sig.In → Option (Err) := fun x => f K x.1.1 x.1.2
noncomputable def cv : sig.In → Err → sig.Ou := fun x r => (r, ())
theorem rets (K : Nat) : ∀ x y, withCv (F K) cv x = some y → Rets M 93 sig x y := runF_retsS (C := (C K)) (LP := (lpPut 4 (l0.lp K) noLoops)) (RF := noRefit) (CP := noCuts) callsE_ok mxd noRefit_ok noCuts_ok (show LoopsOk M 0 (lpPut 4 (l0.lp K) noLoops) (loopsOf (bodyOf Tryz.f93)) from (show loopsOf (bodyOf Tryz.f93) = [nthLoop Tryz.f93 0] by kernel_rfl) ▸ (loopsOk_put (key := 4) (by kernel_rfl) (l0.ok K) noLoops_ok (by kernel_rfl))) (lb rfl) Tryz.func93 (by kernel_rfl) fun x => by
  rw [withCv_def]
  unfold F f
  try simp only [el]
  kernel_rfl
noncomputable def e (K : Nat) : En M := ⟨93, sig, _, F K, cv, by rfl, Tryz.f93, Tryz.func93, by kernel_rfl, rfl, rets K⟩
end fault_At
namespace ir_Func_end
noncomputable def sig : Sig := ⟨(.cons (.agg (.cons (.ty .str) (.cons (.ty yI) (.cons (.ty yI) (.ty (.slice yBlock)))))) (.agg (.cons (.ty yI) (.cons (.ty yI) (.cons (.ty yI) (.ty yI)))))), [], (.ty yI), []⟩
noncomputable def C {α : Type} (K : Nat) : CallsBy α := callsE (M := M) [ir_within.e K]
noncomputable def CP {α : Type} (K : Nat) : CutBy α := (cpPut 6 (rpCut M bindC [.bool] [11] (C K) (eqBy M.P)) (cpPut 7 (rpCut M bindC [.bool] [11] (C K) (eqBy M.P)) (cpPut 8 (rpCut M bindC [.bool] [11] (C K) (eqBy M.P)) (cpPut 10 (rpCut M bindC [.bool] [36] (C K) (eqBy M.P)) (cpPut 12 (rpCut M bindC [.bool] [48] (C K) (eqBy M.P)) (cpPut 13 (rpCut M bindC [.bool] [48] (C K) (eqBy M.P)) noCuts))))))
theorem CP_ok {α : Type} (K : Nat) : CutsOk (α := α) M 0 (CP K) := (cpPut_ok (rpCut_ok callsE_ok (eqBy_ok _) mxd) (cpPut_ok (rpCut_ok callsE_ok (eqBy_ok _) mxd) (cpPut_ok (rpCut_ok callsE_ok (eqBy_ok _) mxd) (cpPut_ok (rpCut_ok callsE_ok (eqBy_ok _) mxd) (cpPut_ok (rpCut_ok callsE_ok (eqBy_ok _) mxd) (cpPut_ok (rpCut_ok callsE_ok (eqBy_ok _) mxd) noCuts_ok))))))
noncomputable def f (K : Nat) (a2 : Int) (a3 : List LBlock) (a4 : Int) (a5 : Int) (a6 : Int) (a7 : Int) : Option (Int) := bif a4 == (1 : Int) then bindC (bif a4 == (1 : Int) then some (a5 != (0 : Int)) else some false) fun t => bif t then some (3 : Int) else bindC (bif a4 == (3 : Int) then some (a6 != (0 : Int)) else some false) fun t => bif t then some (3 : Int) else bindC (bif a4 != (2 : Int) then some (a7 != (0 : Int)) else some false) fun t => bif t then some (3 : Int) else bindC (bif a4 != (1 : Int) then (ir_within.f K a5 a2).bind fun t => some !t else some false) fun t => bif t then some (9 : Int) else bindC (bif a4 != (3 : Int) then (ir_within.f K a6 (↑a3.length : Int)).bind fun t => some !t else some false) fun t => bif t then some (8 : Int) else bindC (bif a4 == (2 : Int) then (ir_within.f K a7 (↑a3.length : Int)).bind fun t => some !t else some false) fun t => bif t then some (8 : Int) else some (0 : Int) else bif a4 == (2 : Int) then bindC (bif a4 == (1 : Int) then some (a5 != (0 : Int)) else some false) fun t => bif t then some (3 : Int) else bindC (bif a4 == (3 : Int) then some (a6 != (0 : Int)) else some false) fun t => bif t then some (3 : Int) else bindC (bif a4 != (2 : Int) then some (a7 != (0 : Int)) else some false) fun t => bif t then some (3 : Int) else bindC (bif a4 != (1 : Int) then (ir_within.f K a5 a2).bind fun t => some !t else some false) fun t => bif t then some (9 : Int) else bindC (bif a4 != (3 : Int) then (ir_within.f K a6 (↑a3.length : Int)).bind fun t => some !t else some false) fun t => bif t then some (8 : Int) else bindC (bif a4 == (2 : Int) then (ir_within.f K a7 (↑a3.length : Int)).bind fun t => some !t else some false) fun t => bif t then some (8 : Int) else some (0 : Int) else bif a4 == (3 : Int) then bindC (bif a4 == (1 : Int) then some (a5 != (0 : Int)) else some false) fun t => bif t then some (3 : Int) else bindC (bif a4 == (3 : Int) then some (a6 != (0 : Int)) else some false) fun t => bif t then some (3 : Int) else bindC (bif a4 != (2 : Int) then some (a7 != (0 : Int)) else some false) fun t => bif t then some (3 : Int) else bindC (bif a4 != (1 : Int) then (ir_within.f K a5 a2).bind fun t => some !t else some false) fun t => bif t then some (9 : Int) else bindC (bif a4 != (3 : Int) then (ir_within.f K a6 (↑a3.length : Int)).bind fun t => some !t else some false) fun t => bif t then some (8 : Int) else bindC (bif a4 == (2 : Int) then (ir_within.f K a7 (↑a3.length : Int)).bind fun t => some !t else some false) fun t => bif t then some (8 : Int) else some (0 : Int) else some (5 : Int)
noncomputable def F (K : Nat) : sig.In → Option (Int) := fun x => f K x.1.1.2.2.1 x.1.1.2.2.2 x.1.2.1 x.1.2.2.1 x.1.2.2.2.1 x.1.2.2.2.2
noncomputable def cv : sig.In → Int → sig.Ou := fun x r => (r, ())
theorem rets (K : Nat) : ∀ x y, withCv (F K) cv x = some y → Rets M 160 sig x y := runF_retsS (C := (C K)) (LP := noLoops) (RF := noRefit) (CP := (CP K)) callsE_ok mxd noRefit_ok (CP_ok K) (noL (by kernel_rfl)) (lb rfl) Tryz.func160 (by kernel_rfl) fun x => by
  rw [withCv_def]
  unfold F f
  try simp only [el]
  kernel_rfl
noncomputable def e (K : Nat) : En M := ⟨160, sig, _, F K, cv, by rfl, Tryz.f160, Tryz.func160, by kernel_rfl, rfl, rets K⟩
end ir_Func_end
namespace ir_Module_block
noncomputable def sig : Sig := ⟨(.cons (.agg (.cons (.ty (.slice yI)) (.cons (.ty (.slice yFunc)) (.ty (.slice yImport))))) (.cons (.agg (.cons (.ty .str) (.cons (.ty yI) (.cons (.ty yI) (.ty (.slice yBlock)))))) (.agg (.cons (.ty (.slice yInsn)) (.cons (.ty yI) (.cons (.ty yI) (.cons (.ty yI) (.ty yI)))))))), [], (.ty .err), []⟩
noncomputable def C {α : Type} (K : Nat) : CallsBy α := callsE (M := M) [ir_Module_insn.e K, fault_At.e K, ir_Func_end.e K]
noncomputable def l0.h : SSh := ⟨[3, 4, 5, 17, 18, 19], (.cons (.ptr 0 0) (.cons (.ptr 1 0) (.cons (.ptr 2 0) (.cons (.ty (.slice yInsn)) (.cons (.ty yI) (.ty yI)))))), [.cells 35 0 (.cons (.ty (.slice yI)) (.cons (.ty (.slice yFunc)) (.ty (.slice yImport)))), .cells 47 0 (.cons (.ty .str) (.cons (.ty yI) (.cons (.ty yI) (.ty (.slice yBlock))))), .cells 91 0 (.cons (.ty (.slice yInsn)) (.cons (.ty yI) (.cons (.ty yI) (.cons (.ty yI) (.ty yI)))))]⟩
noncomputable def l0.x : SSh := ⟨[4, 5], (.cons (.ptr 0 0) (.ptr 1 0)), [.cells 47 0 (.cons (.ty .str) (.cons (.ty yI) (.cons (.ty yI) (.ty (.slice yBlock))))), .cells 91 0 (.cons (.ty (.slice yInsn)) (.cons (.ty yI) (.cons (.ty yI) (.cons (.ty yI) (.ty yI)))))]⟩
noncomputable def l0.r : SSh := ⟨[6], (.ty .err), []⟩
noncomputable def l0.cx : l0.h.I → Unit → l0.x.I := fun x r => (((), ()), ((x.2.2.1.1, (x.2.2.1.2.1, (x.2.2.1.2.2.1, x.2.2.1.2.2.2))), ((x.2.2.2.1.1, (x.2.2.2.1.2.1, (x.2.2.2.1.2.2.1, (x.2.2.2.1.2.2.2.1, x.2.2.2.1.2.2.2.2)))), ())))
noncomputable def l0.cr : l0.h.I → Err → l0.r.I := fun x r => (r, ())
noncomputable def l0.f (K : Nat) : Nat → List LInsn → Int → Int → List Int → List LFunc → List LImport → Int → Option ((Unit) ⊕ (Err))
  | 0, _, _, _, _, _, _, _ => none
  | k + 1, a0, a1, a2, a3, a4, a5, a8 => bif decide (a2 < a1) then bif decide ((0 : Int) ≤ a2) && true then a0[a2.toNat]?.bind fun t => (ir_Module_insn.f K a3 a4 a5 a8 t.1 t.2.1 t.2.2.1 t.2.2.2.1 t.2.2.2.2.1 t.2.2.2.2.2).bind fun t => bif t != (0 : Int) then (fault_At.f K (Err.no t) [a2]).bind fun t => some (Sum.inr t) else l0.f K k a0 a1 (IntKind.i64.wrap (a2 + (1 : Int))) a3 a4 a5 a8 else none else some (Sum.inl ())
noncomputable def l0.F (K : Nat) (k : Nat) : l0.h.I → Option ((Unit) ⊕ (Err)) := fun x => l0.f K k x.1.2.2.2.1 x.1.2.2.2.2.1 x.1.2.2.2.2.2 x.2.1.1 x.2.1.2.1 x.2.1.2.2 x.2.2.1.2.2.1
noncomputable def l0.lp {α : Type} (K : Nat) : St → Kn α → Option α := lpXRD 0 49 0 l0.h l0.x l0.r (l0.F K K) l0.cx l0.cr
theorem l0.ok {α : Type} (K : Nat) : LoopOk (α := α) M 0 (nthLoop Tryz.f137 0) (l0.lp K) := lpXRD_okS (C := (C K)) (LP := noLoops) (RF := noRefit) (CP := noCuts) (L := 20) callsE_ok mxd noRefit_ok noCuts_ok (noL (by kernel_rfl)) (lb rfl) (lb rfl) (lb rfl) (fun x => rfl) fun k x => by
  rw [withCv_def]
  unfold l0.F
  rw [l0.f]
  try simp only [el]
  kernel_rfl
noncomputable def f (K : Nat) (a0 : List Int) (a1 : List LFunc) (a2 : List LImport) (a5 : Int) (a6 : List LBlock) (a7 : List LInsn) (a8 : Int) (a9 : Int) (a10 : Int) (a11 : Int) : Option (Err) := bif decide ((↑a7.length : Int) > (12 : Int)) then some (Err.no (11 : Int)) else (l0.f K K a7 (↑a7.length : Int) (0 : Int) a0 a1 a2 a5).bind fun t => Sum.elim (fun t => (ir_Func_end.f K a5 a6 a8 a9 a10 a11).bind fun t => bif t != (0 : Int) then fault_At.f K (Err.no t) [(↑a7.length : Int)] else some Err.nil) (fun t => some t) t
noncomputable def F (K : Nat) : sig.In → Option (Err) := fun x => f K x.1.1.1 x.1.1.2.1 x.1.1.2.2 x.1.2.1.2.2.1 x.1.2.1.2.2.2 x.1.2.2.1 x.1.2.2.2.1 x.1.2.2.2.2.1 x.1.2.2.2.2.2.1 x.1.2.2.2.2.2.2
noncomputable def cv : sig.In → Err → sig.Ou := fun x r => (r, ())
theorem rets (K : Nat) : ∀ x y, withCv (F K) cv x = some y → Rets M 137 sig x y := runF_retsS (C := (C K)) (LP := (lpPut 4 (l0.lp K) noLoops)) (RF := noRefit) (CP := noCuts) callsE_ok mxd noRefit_ok noCuts_ok (show LoopsOk M 0 (lpPut 4 (l0.lp K) noLoops) (loopsOf (bodyOf Tryz.f137)) from (show loopsOf (bodyOf Tryz.f137) = [nthLoop Tryz.f137 0] by kernel_rfl) ▸ (loopsOk_put (key := 4) (by kernel_rfl) (l0.ok K) noLoops_ok (by kernel_rfl))) (lb rfl) Tryz.func137 (by kernel_rfl) fun x => by
  rw [withCv_def]
  unfold F f
  try simp only [el]
  kernel_rfl
noncomputable def e (K : Nat) : En M := ⟨137, sig, _, F K, cv, by rfl, Tryz.f137, Tryz.func137, by kernel_rfl, rfl, rets K⟩
end ir_Module_block
namespace ir_Module_function
noncomputable def sig : Sig := ⟨(.cons (.agg (.cons (.ty (.slice yI)) (.cons (.ty (.slice yFunc)) (.ty (.slice yImport))))) (.ty yI)), [], (.ty .err), []⟩
noncomputable def C {α : Type} (K : Nat) : CallsBy α := callsE (M := M) [ir_Module_first.e K, ir_Module_block.e K, fault_At.e K]
noncomputable def l0.h : SSh := ⟨[1, 2, 21, 22, 23], (.cons (.ty yI) (.cons (.ptr 0 0) (.cons (.ty (.slice yBlock)) (.cons (.ty yI) (.ty yI))))), [.cells 35 0 (.cons (.ty (.slice yI)) (.cons (.ty (.slice yFunc)) (.ty (.slice yImport))))]⟩
noncomputable def l0.x : SSh := ⟨[], .unit, []⟩
noncomputable def l0.r : SSh := ⟨[4], (.ty .err), []⟩
noncomputable def l0.cx : l0.h.I → Unit → l0.x.I := fun x r => ((), ())
noncomputable def l0.cr : l0.h.I → Err → l0.r.I := fun x r => (r, ())
noncomputable def l0.f (K : Nat) : Nat → Int → List LBlock → Int → Int → List Int → List LFunc → List LImport → Option ((Unit) ⊕ (Err))
  | 0, _, _, _, _, _, _, _ => none
  | k + 1, a0, a1, a2, a3, a4, a5, a6 => bif decide (a3 < a2) then bif decide ((0 : Int) ≤ a3) && true then a1[a3.toNat]?.bind fun t => bif decide ((0 : Int) ≤ a0) && true then a5[a0.toNat]?.bind fun t_1 => (ir_Module_block.f K a4 a5 a6 t_1.2.2.1 t_1.2.2.2 t.1 t.2.1 t.2.2.1 t.2.2.2.1 t.2.2.2.2).bind fun t => bif bif true then !t.isNil else t.isNil then (fault_At.f K t [a3]).bind fun t => some (Sum.inr t) else l0.f K k a0 a1 a2 (IntKind.i64.wrap (a3 + (1 : Int))) a4 a5 a6 else none else none else some (Sum.inl ())
noncomputable def l0.F (K : Nat) (k : Nat) : l0.h.I → Option ((Unit) ⊕ (Err)) := fun x => l0.f K k x.1.1 x.1.2.2.1 x.1.2.2.2.1 x.1.2.2.2.2 x.2.1.1 x.2.1.2.1 x.2.1.2.2
noncomputable def l0.lp {α : Type} (K : Nat) : St → Kn α → Option α := lpXRD 0 43 0 l0.h l0.x l0.r (l0.F K K) l0.cx l0.cr
theorem l0.ok {α : Type} (K : Nat) : LoopOk (α := α) M 0 (nthLoop Tryz.f92 0) (l0.lp K) := lpXRD_okS (C := (C K)) (LP := noLoops) (RF := noRefit) (CP := noCuts) (L := 20) callsE_ok mxd noRefit_ok noCuts_ok (noL (by kernel_rfl)) (lb rfl) (lb rfl) (lb rfl) (fun x => rfl) fun k x => by
  rw [withCv_def]
  unfold l0.F
  rw [l0.f]
  try simp only [el]
  kernel_rfl
noncomputable def f (K : Nat) (a0 : List Int) (a1 : List LFunc) (a2 : List LImport) (a3 : Int) : Option (Err) := (ir_Module_first.f K a1 a2 a3).bind fun t => bif t != (0 : Int) then some (Err.no t) else bif decide ((0 : Int) ≤ a3) && true then a1[a3.toNat]?.bind fun t => (l0.f K K a3 t.2.2.2 (↑(List.length t.2.2.2) : Int) (0 : Int) a0 a1 a2).bind fun t => Sum.elim (fun t => some Err.nil) (fun t => some t) t else none
noncomputable def F (K : Nat) : sig.In → Option (Err) := fun x => f K x.1.1.1 x.1.1.2.1 x.1.1.2.2 x.1.2
noncomputable def cv : sig.In → Err → sig.Ou := fun x r => (r, ())
theorem rets (K : Nat) : ∀ x y, withCv (F K) cv x = some y → Rets M 92 sig x y := runF_retsS (C := (C K)) (LP := (lpPut 5 (l0.lp K) noLoops)) (RF := noRefit) (CP := noCuts) callsE_ok mxd noRefit_ok noCuts_ok (show LoopsOk M 0 (lpPut 5 (l0.lp K) noLoops) (loopsOf (bodyOf Tryz.f92)) from (show loopsOf (bodyOf Tryz.f92) = [nthLoop Tryz.f92 0] by kernel_rfl) ▸ (loopsOk_put (key := 5) (by kernel_rfl) (l0.ok K) noLoops_ok (by kernel_rfl))) (lb rfl) Tryz.func92 (by kernel_rfl) fun x => by
  rw [withCv_def]
  unfold F f
  try simp only [el]
  kernel_rfl
noncomputable def e (K : Nat) : En M := ⟨92, sig, _, F K, cv, by rfl, Tryz.f92, Tryz.func92, by kernel_rfl, rfl, rets K⟩
end ir_Module_function
namespace ir_Module_imported
noncomputable def sig : Sig := ⟨(.cons (.agg (.cons (.ty (.slice yI)) (.cons (.ty (.slice yFunc)) (.ty (.slice yImport))))) (.ty yI)), [], (.ty yI), []⟩
noncomputable def C {α : Type} (K : Nat) : CallsBy α := callsE (M := M) [ir_named.e K, ir_Find.e K, ir_within.e K]
noncomputable def CP {α : Type} (K : Nat) : CutBy α := (cpPut 4 (rpCut M bindC [.bool] [16] (C K) (eqBy M.P)) noCuts)
theorem CP_ok {α : Type} (K : Nat) : CutsOk (α := α) M 0 (CP K) := (cpPut_ok (rpCut_ok callsE_ok (eqBy_ok _) mxd) noCuts_ok)
noncomputable def f (K : Nat) (a1 : List LFunc) (a2 : List LImport) (a3 : Int) : Option (Int) := bif decide ((0 : Int) ≤ a3) && true then a2[a3.toNat]?.bind fun t => (ir_named.f K t.1).bind fun t_1 => bif !t_1 then some (6 : Int) else bindC (bif decide (a3 > (0 : Int)) then bif decide ((0 : Int) ≤ IntKind.i64.wrap (a3 - (1 : Int))) && true then a2[(IntKind.i64.wrap (a3 - (1 : Int))).toNat]?.bind fun t_2 => some (Op.bytesLess (ByteArray.toList t.1) (ByteArray.toList t_2.1) || ByteArray.toList t.1 == ByteArray.toList t_2.1) else none else some false) fun t_2 => bif t_2 then some (3 : Int) else (ir_Find.f K a1 a2 t.1).bind fun t_3 => bif decide (t_3 < (↑a1.length : Int)) then some (7 : Int) else (ir_within.f K t.2 (5 : Int)).bind fun t => bif !t then some (10 : Int) else some (0 : Int) else none
noncomputable def F (K : Nat) : sig.In → Option (Int) := fun x => f K x.1.1.2.1 x.1.1.2.2 x.1.2
noncomputable def cv : sig.In → Int → sig.Ou := fun x r => (r, ())
theorem rets (K : Nat) : ∀ x y, withCv (F K) cv x = some y → Rets M 94 sig x y := runF_retsS (C := (C K)) (LP := noLoops) (RF := noRefit) (CP := (CP K)) callsE_ok mxd noRefit_ok (CP_ok K) (noL (by kernel_rfl)) (lb rfl) Tryz.func94 (by kernel_rfl) fun x => by
  rw [withCv_def]
  unfold F f
  try simp only [el]
  kernel_rfl
noncomputable def e (K : Nat) : En M := ⟨94, sig, _, F K, cv, by rfl, Tryz.f94, Tryz.func94, by kernel_rfl, rfl, rets K⟩
end ir_Module_imported
namespace ir_Check
noncomputable def sig : Sig := ⟨(.agg (.cons (.ty (.slice yI)) (.cons (.ty (.slice yFunc)) (.ty (.slice yImport))))), [], (.ty .err), []⟩
noncomputable def C {α : Type} (K : Nat) : CallsBy α := callsE (M := M) [ir_Module_function.e K, fault_At.e K, ir_Module_imported.e K]
noncomputable def CP {α : Type} (K : Nat) : CutBy α := (cpPut 1 (rpCut M bindC [.bool] [20] (C K) (eqBy M.P)) noCuts)
theorem CP_ok {α : Type} (K : Nat) : CutsOk (α := α) M 0 (CP K) := (cpPut_ok (rpCut_ok callsE_ok (eqBy_ok _) mxd) noCuts_ok)
noncomputable def l1.h : SSh := ⟨[1, 40, 41], (.cons (.ptr 0 0) (.cons (.ty yI) (.ty yI))), [.cells 35 0 (.cons (.ty (.slice yI)) (.cons (.ty (.slice yFunc)) (.ty (.slice yImport))))]⟩
noncomputable def l1.x : SSh := ⟨[], .unit, []⟩
noncomputable def l1.r : SSh := ⟨[2], (.ty .err), []⟩
noncomputable def l1.cx : l1.h.I → Unit → l1.x.I := fun x r => ((), ())
noncomputable def l1.cr : l1.h.I → Err → l1.r.I := fun x r => (r, ())
noncomputable def l1.f (K : Nat) : Nat → Int → Int → List LFunc → List LImport → Option ((Unit) ⊕ (Err))
  | 0, _, _, _, _ => none
  | k + 1, a0, a1, a3, a4 => bif decide (a1 < a0) then (ir_Module_imported.f K a3 a4 a1).bind fun t => bif t != (0 : Int) then (fault_At.f K (Err.no t) [IntKind.i64.wrap ((↑a3.length : Int) + a1)]).bind fun t => some (Sum.inr t) else l1.f K k a0 (IntKind.i64.wrap (a1 + (1 : Int))) a3 a4 else some (Sum.inl ())
noncomputable def l1.F (K : Nat) (k : Nat) : l1.h.I → Option ((Unit) ⊕ (Err)) := fun x => l1.f K k x.1.2.1 x.1.2.2 x.2.1.2.1 x.2.1.2.2
noncomputable def l1.lp {α : Type} (K : Nat) : St → Kn α → Option α := lpXRD 0 59 2 l1.h l1.x l1.r (l1.F K K) l1.cx l1.cr
theorem l1.ok {α : Type} (K : Nat) : LoopOk (α := α) M 0 (nthLoop Tryz.f38 1) (l1.lp K) := lpXRD_okS (C := (C K)) (LP := noLoops) (RF := noRefit) (CP := (CP K)) (L := 20) callsE_ok mxd noRefit_ok (CP_ok K) (noL (by kernel_rfl)) (lb rfl) (lb rfl) (lb rfl) (fun x => rfl) fun k x => by
  rw [withCv_def]
  unfold l1.F
  rw [l1.f]
  try simp only [el]
  kernel_rfl
noncomputable def l0.h : SSh := ⟨[1, 24, 25], (.cons (.ptr 0 0) (.cons (.ty yI) (.ty yI))), [.cells 35 0 (.cons (.ty (.slice yI)) (.cons (.ty (.slice yFunc)) (.ty (.slice yImport))))]⟩
noncomputable def l0.x : SSh := ⟨[1], (.ptr 0 0), [.cells 35 0 (.cons (.ty (.slice yI)) (.cons (.ty (.slice yFunc)) (.ty (.slice yImport))))]⟩
noncomputable def l0.r : SSh := ⟨[2], (.ty .err), []⟩
noncomputable def l0.cx : l0.h.I → Unit → l0.x.I := fun x r => ((), ((x.2.1.1, (x.2.1.2.1, x.2.1.2.2)), ()))
noncomputable def l0.cr : l0.h.I → Err → l0.r.I := fun x r => (r, ())
noncomputable def l0.f (K : Nat) : Nat → Int → Int → List Int → List LFunc → List LImport → Option ((Unit) ⊕ (Err))
  | 0, _, _, _, _, _ => none
  | k + 1, a0, a1, a2, a3, a4 => bif decide (a1 < a0) then (ir_Module_function.f K a2 a3 a4 a1).bind fun t => bif bif true then !t.isNil else t.isNil then (fault_At.f K t [a1]).bind fun t => some (Sum.inr t) else l0.f K k a0 (IntKind.i64.wrap (a1 + (1 : Int))) a2 a3 a4 else some (Sum.inl ())
noncomputable def l0.F (K : Nat) (k : Nat) : l0.h.I → Option ((Unit) ⊕ (Err)) := fun x => l0.f K k x.1.2.1 x.1.2.2 x.2.1.1 x.2.1.2.1 x.2.1.2.2
noncomputable def l0.lp {α : Type} (K : Nat) : St → Kn α → Option α := lpXRD 0 59 0 l0.h l0.x l0.r (l0.F K K) l0.cx l0.cr
theorem l0.ok {α : Type} (K : Nat) : LoopOk (α := α) M 0 (nthLoop Tryz.f38 0) (l0.lp K) := lpXRD_okS (C := (C K)) (LP := noLoops) (RF := noRefit) (CP := (CP K)) (L := 20) callsE_ok mxd noRefit_ok (CP_ok K) (noL (by kernel_rfl)) (lb rfl) (lb rfl) (lb rfl) (fun x => rfl) fun k x => by
  rw [withCv_def]
  unfold l0.F
  rw [l0.f]
  try simp only [el]
  kernel_rfl
noncomputable def f (K : Nat) (a0 : List Int) (a1 : List LFunc) (a2 : List LImport) : Option (Err) := bindC (bif decide ((↑a0.length : Int) > (16 : Int)) then some true else some (decide (IntKind.i64.wrap ((↑a1.length : Int) + (↑a2.length : Int)) > (24 : Int)))) fun t => bif t then some (Err.no (11 : Int)) else (l0.f K K (↑a1.length : Int) (0 : Int) a0 a1 a2).bind fun t => Sum.elim (fun t => (l1.f K K (↑a2.length : Int) (0 : Int) a1 a2).bind fun t => Sum.elim (fun t => some Err.nil) (fun t => some t) t) (fun t => some t) t
noncomputable def F (K : Nat) : sig.In → Option (Err) := fun x => f K x.1.1 x.1.2.1 x.1.2.2
noncomputable def cv : sig.In → Err → sig.Ou := fun x r => (r, ())
theorem rets (K : Nat) : ∀ x y, withCv (F K) cv x = some y → Rets M 38 sig x y := runF_retsS (C := (C K)) (LP := (lpPut 4 (l0.lp K) (lpPut 11 (l1.lp K) noLoops))) (RF := noRefit) (CP := (CP K)) callsE_ok mxd noRefit_ok (CP_ok K) (show LoopsOk M 0 (lpPut 4 (l0.lp K) (lpPut 11 (l1.lp K) noLoops)) (loopsOf (bodyOf Tryz.f38)) from (show loopsOf (bodyOf Tryz.f38) = [nthLoop Tryz.f38 0, nthLoop Tryz.f38 1] by kernel_rfl) ▸ (loopsOk_put (key := 4) (by kernel_rfl) (l0.ok K) (loopsOk_put (key := 11) (by kernel_rfl) (l1.ok K) noLoops_ok (by kernel_rfl)) (by kernel_rfl))) (lb rfl) Tryz.func38 (by kernel_rfl) fun x => by
  rw [withCv_def]
  unfold F f
  try simp only [el]
  kernel_rfl
noncomputable def e (K : Nat) : En M := ⟨38, sig, _, F K, cv, by rfl, Tryz.f38, Tryz.func38, by kernel_rfl, rfl, rets K⟩
end ir_Check
namespace wire_New
noncomputable def sig : Sig := ⟨.unit, [], (.ptr 0 0), [.cells 188 0 (.own 1), .list 5 (.int .u8) []]⟩
noncomputable def C {α : Type} (K : Nat) : CallsBy α := callsE (M := M) []
noncomputable def f (K : Nat) : Option (List Int) := some []
noncomputable def F (K : Nat) : sig.In → Option (List Int) := fun x => f K
noncomputable def cv : sig.In → (List Int) → sig.Ou := fun x r => ((), ((), (r, ())))
theorem rets (K : Nat) : ∀ x y, withCv (F K) cv x = some y → Rets M 39 sig x y := runF_retsS (C := (C K)) (LP := noLoops) (RF := noRefit) (CP := noCuts) callsE_ok mxd noRefit_ok noCuts_ok (noL (by kernel_rfl)) (lb rfl) Tryz.func39 (by kernel_rfl) fun x => by
  rw [withCv_def]
  unfold F f
  try simp only [el]
  kernel_rfl
noncomputable def e (K : Nat) : En M := ⟨39, sig, _, F K, cv, by rfl, Tryz.f39, Tryz.func39, by kernel_rfl, rfl, rets K⟩
end wire_New
namespace wire_Writer_Raw
noncomputable def sig : Sig := ⟨(.cons (.ptr 0 0) (.ty (.slice (.int .u8)))), [.cells 188 0 (.own 1), .list 5 (.int .u8) []], .unit, [.cells 188 0 (.own 2), .dead, .list 5 (.int .u8) []]⟩
noncomputable def C {α : Type} (K : Nat) : CallsBy α := callsE (M := M) []
noncomputable def f (K : Nat) (a0 : List Int) (a1 : List Int) : Option (List Int) := bif (a1.length + a0.length).ble (100000 : Nat) then some (a1 ++ a0) else none
noncomputable def F (K : Nat) : sig.In → Option (List Int) := fun x => f K x.1.2 x.2.2.1
noncomputable def cv : sig.In → (List Int) → sig.Ou := fun x r => ((), ((), ((), (r, ()))))
theorem rets (K : Nat) : ∀ x y, withCv (F K) cv x = some y → Rets M 40 sig x y := runF_retsS (C := (C K)) (LP := noLoops) (RF := noRefit) (CP := noCuts) callsE_ok mxd noRefit_ok noCuts_ok (noL (by kernel_rfl)) (lb rfl) Tryz.func40 (by kernel_rfl) fun x => by
  rw [withCv_def]
  unfold F f
  try simp only [el]
  kernel_rfl
noncomputable def e (K : Nat) : En M := ⟨40, sig, _, F K, cv, by rfl, Tryz.f40, Tryz.func40, by kernel_rfl, rfl, rets K⟩
end wire_Writer_Raw
namespace wire_Writer_Byte
noncomputable def sig : Sig := ⟨(.cons (.ptr 0 0) (.ty (.int .u8))), [.cells 188 0 (.own 1), .list 5 (.int .u8) []], .unit, [.cells 188 0 (.own 2), .dead, .list 5 (.int .u8) []]⟩
noncomputable def C {α : Type} (K : Nat) : CallsBy α := callsE (M := M) []
noncomputable def f (K : Nat) (a0 : Int) (a1 : List Int) : Option (List Int) := bif (a1.length + [a0].length).ble (100000 : Nat) then some (a1 ++ [a0]) else none
noncomputable def F (K : Nat) : sig.In → Option (List Int) := fun x => f K x.1.2 x.2.2.1
noncomputable def cv : sig.In → (List Int) → sig.Ou := fun x r => ((), ((), ((), (r, ()))))
theorem rets (K : Nat) : ∀ x y, withCv (F K) cv x = some y → Rets M 95 sig x y := runF_retsS (C := (C K)) (LP := noLoops) (RF := noRefit) (CP := noCuts) callsE_ok mxd noRefit_ok noCuts_ok (noL (by kernel_rfl)) (lb rfl) Tryz.func95 (by kernel_rfl) fun x => by
  rw [withCv_def]
  unfold F f
  try simp only [el]
  kernel_rfl
noncomputable def e (K : Nat) : En M := ⟨95, sig, _, F K, cv, by rfl, Tryz.f95, Tryz.func95, by kernel_rfl, rfl, rets K⟩
end wire_Writer_Byte
namespace wire_Writer_Uint
noncomputable def sig : Sig := ⟨(.cons (.ptr 0 0) (.ty (.int .u64))), [.cells 188 0 (.own 1), .list 5 (.int .u8) []], .unit, [.cells 188 0 (.own 2), .dead, .list 5 (.int .u8) []]⟩
noncomputable def C {α : Type} (K : Nat) : CallsBy α := callsE (M := M) [wire_Writer_Byte.e K]
noncomputable def l0.h : SSh := ⟨[0, 1], (.cons (.ptr 0 0) (.ty (.int .u64))), [.cells 188 0 (.own 2), .dead, .list 5 (.int .u8) []]⟩
noncomputable def l0.x : SSh := ⟨[0, 1], (.cons (.ptr 0 0) (.ty (.int .u64))), [.cells 188 0 (.own 2), .dead, .list 5 (.int .u8) []]⟩
noncomputable def l0.cx : l0.h.I → (Int × List Int) → l0.x.I := fun x r => (((), r.1), ((), ((), (r.2, ()))))
noncomputable def l0.f (K : Nat) : Nat → Int → List Int → Option (Int × List Int)
  | 0, _, _ => none
  | k + 1, a0, a1 => bif decide (a0 > (127 : Int)) then (wire_Writer_Byte.f K (IntKind.u8.wrap (↑(BitVec.ofInt (8 : Nat) (IntKind.u8.wrap (IntKind.u64.wrap (↑(BitVec.ofInt (64 : Nat) a0 &&& BitVec.ofInt (64 : Nat) (127 : Int)).toNat : Int))) ||| BitVec.ofInt (8 : Nat) (128 : Int)).toNat : Int)) a1).bind fun t => l0.f K k (a0.fdiv ((2 : Int) ^ (7 : Nat))) t else some (a0, a1)
noncomputable def l0.F (K : Nat) (k : Nat) : l0.h.I → Option (Int × List Int) := fun x => l0.f K k x.1.2 x.2.2.2.1
noncomputable def l0.lp {α : Type} (K : Nat) : St → Kn α → Option α := lpX 2 18 0 l0.h l0.x (l0.F K K) l0.cx
theorem l0.ok {α : Type} (K : Nat) : LoopOk (α := α) M 2 (nthLoop Tryz.f41 0) (l0.lp K) := lpX_okS (C := (C K)) (LP := noLoops) (RF := noRefit) (CP := noCuts) (L := 20) callsE_ok mxd noRefit_ok noCuts_ok (noL (by kernel_rfl)) (lb rfl) (lb rfl) (fun x => rfl) fun k x => by
  rw [withCv_def]
  unfold l0.F
  rw [l0.f]
  try simp only [el]
  kernel_rfl
noncomputable def f (K : Nat) (a0 : Int) (a1 : List Int) : Option (List Int) := (l0.f K K a0 a1).bind fun t => wire_Writer_Byte.f K (IntKind.u8.wrap t.1) t.2
noncomputable def F (K : Nat) : sig.In → Option (List Int) := fun x => f K x.1.2 x.2.2.1
noncomputable def cv : sig.In → (List Int) → sig.Ou := fun x r => ((), ((), ((), (r, ()))))
theorem rets (K : Nat) : ∀ x y, withCv (F K) cv x = some y → Rets M 41 sig x y := runF_retsS (C := (C K)) (LP := (lpPut 0 (l0.lp K) noLoops)) (RF := noRefit) (CP := noCuts) callsE_ok mxd noRefit_ok noCuts_ok (show LoopsOk M 2 (lpPut 0 (l0.lp K) noLoops) (loopsOf (bodyOf Tryz.f41)) from (show loopsOf (bodyOf Tryz.f41) = [nthLoop Tryz.f41 0] by kernel_rfl) ▸ (loopsOk_put (key := 0) (by kernel_rfl) (l0.ok K) noLoops_ok (by kernel_rfl))) (lb rfl) Tryz.func41 (by kernel_rfl) fun x => by
  rw [withCv_def]
  unfold F f
  try simp only [el]
  kernel_rfl
noncomputable def e (K : Nat) : En M := ⟨41, sig, _, F K, cv, by rfl, Tryz.f41, Tryz.func41, by kernel_rfl, rfl, rets K⟩
end wire_Writer_Uint
namespace wire_Writer_Int
noncomputable def sig : Sig := ⟨(.cons (.ptr 0 0) (.ty yI)), [.cells 188 0 (.own 1), .list 5 (.int .u8) []], .unit, [.cells 188 0 (.own 2), .dead, .list 5 (.int .u8) []]⟩
noncomputable def C {α : Type} (K : Nat) : CallsBy α := callsE (M := M) [wire_Writer_Uint.e K]
noncomputable def f (K : Nat) (a0 : Int) (a1 : List Int) : Option (List Int) := wire_Writer_Uint.f K (IntKind.u64.wrap (↑(BitVec.ofInt (64 : Nat) (IntKind.u64.wrap (IntKind.u64.wrap a0 * (2 : Int) ^ (1 : Nat))) ^^^ BitVec.ofInt (64 : Nat) (IntKind.u64.wrap (a0.fdiv ((2 : Int) ^ (63 : Nat))))).toNat : Int)) a1
noncomputable def F (K : Nat) : sig.In → Option (List Int) := fun x => f K x.1.2 x.2.2.1
noncomputable def cv : sig.In → (List Int) → sig.Ou := fun x r => ((), ((), ((), (r, ()))))
theorem rets (K : Nat) : ∀ x y, withCv (F K) cv x = some y → Rets M 42 sig x y := runF_retsS (C := (C K)) (LP := noLoops) (RF := noRefit) (CP := noCuts) callsE_ok mxd noRefit_ok noCuts_ok (noL (by kernel_rfl)) (lb rfl) Tryz.func42 (by kernel_rfl) fun x => by
  rw [withCv_def]
  unfold F f
  try simp only [el]
  kernel_rfl
noncomputable def e (K : Nat) : En M := ⟨42, sig, _, F K, cv, by rfl, Tryz.f42, Tryz.func42, by kernel_rfl, rfl, rets K⟩
end wire_Writer_Int
namespace wire_Writer_Section
noncomputable def sig : Sig := ⟨(.cons (.ptr 0 0) (.ty (.slice (.int .u8)))), [.cells 188 0 (.own 1), .list 5 (.int .u8) []], .unit, [.cells 188 0 (.own 2), .dead, .list 5 (.int .u8) []]⟩
noncomputable def C {α : Type} (K : Nat) : CallsBy α := callsE (M := M) [wire_Writer_Uint.e K, wire_Writer_Raw.e K]
noncomputable def f (K : Nat) (a0 : List Int) (a1 : List Int) : Option (List Int) := (wire_Writer_Uint.f K (IntKind.u64.wrap (↑a0.length : Int)) a1).bind fun t => wire_Writer_Raw.f K a0 t
noncomputable def F (K : Nat) : sig.In → Option (List Int) := fun x => f K x.1.2 x.2.2.1
noncomputable def cv : sig.In → (List Int) → sig.Ou := fun x r => ((), ((), ((), (r, ()))))
theorem rets (K : Nat) : ∀ x y, withCv (F K) cv x = some y → Rets M 44 sig x y := runF_retsS (C := (C K)) (LP := noLoops) (RF := noRefit) (CP := noCuts) callsE_ok mxd noRefit_ok noCuts_ok (noL (by kernel_rfl)) (lb rfl) Tryz.func44 (by kernel_rfl) fun x => by
  rw [withCv_def]
  unfold F f
  try simp only [el]
  kernel_rfl
noncomputable def e (K : Nat) : En M := ⟨44, sig, _, F K, cv, by rfl, Tryz.f44, Tryz.func44, by kernel_rfl, rfl, rets K⟩
end wire_Writer_Section
namespace code_of
noncomputable def sig : Sig := ⟨(.ty yI), [], (.cons (.agg (.cons (.ty .bool) (.cons (.ty .bool) (.cons (.ty .bool) (.ty yI))))) (.ty .bool)), []⟩
noncomputable def C {α : Type} (K : Nat) : CallsBy α := callsE (M := M) []
noncomputable def f (K : Nat) (a0 : Int) : Option (Bool × Bool × Bool × Int × Bool) := bif a0 == (1 : Int) then some (true, false, false, (7 : Int), true) else bif a0 == (15 : Int) then some (true, false, false, (7 : Int), true) else bif a0 == (2 : Int) then some (true, true, false, (7 : Int), true) else bif a0 == (3 : Int) then some (true, true, false, (7 : Int), true) else bif a0 == (4 : Int) then some (true, true, true, (7 : Int), true) else bif a0 == (5 : Int) then some (true, true, true, (7 : Int), true) else bif a0 == (6 : Int) then some (true, true, true, (7 : Int), true) else bif a0 == (7 : Int) then some (true, true, true, (7 : Int), true) else bif a0 == (8 : Int) then some (true, true, true, (7 : Int), true) else bif a0 == (9 : Int) then some (true, true, true, (7 : Int), true) else bif a0 == (10 : Int) then some (true, true, true, (7 : Int), true) else bif a0 == (11 : Int) then some (true, true, true, (7 : Int), true) else bif a0 == (12 : Int) then some (true, true, true, (7 : Int), true) else bif a0 == (13 : Int) then some (true, false, true, (15 : Int), true) else bif a0 == (14 : Int) then some (false, true, true, (15 : Int), true) else bif a0 == (16 : Int) then some (false, true, false, (7 : Int), true) else bif a0 == (17 : Int) then some (true, false, true, (23 : Int), true) else some (false, false, false, (0 : Int), false)
noncomputable def F (K : Nat) : sig.In → Option (Bool × Bool × Bool × Int × Bool) := fun x => f K x.1
noncomputable def cv : sig.In → (Bool × Bool × Bool × Int × Bool) → sig.Ou := fun x r => (((r.1, (r.2.1, (r.2.2.1, r.2.2.2.1))), r.2.2.2.2), ())
theorem rets (K : Nat) : ∀ x y, withCv (F K) cv x = some y → Rets M 140 sig x y := runF_retsS (C := (C K)) (LP := noLoops) (RF := noRefit) (CP := noCuts) callsE_ok mxd noRefit_ok noCuts_ok (noL (by kernel_rfl)) (lb rfl) Tryz.func140 (by kernel_rfl) fun x => by
  rw [withCv_def]
  unfold F f
  try simp only [el]
  kernel_rfl
noncomputable def e (K : Nat) : En M := ⟨140, sig, _, F K, cv, by rfl, Tryz.f140, Tryz.func140, by kernel_rfl, rfl, rets K⟩
end code_of
namespace code_putInsn
noncomputable def sig : Sig := ⟨(.cons (.ptr 0 0) (.agg (.cons (.ty yI) (.cons (.ty yI) (.cons (.ty yI) (.cons (.ty yI) (.cons (.ty yI) (.ty (.slice yI))))))))), [.cells 188 0 (.own 1), .list 5 (.int .u8) []], .unit, [.cells 188 0 (.own 2), .dead, .list 5 (.int .u8) []]⟩
noncomputable def C {α : Type} (K : Nat) : CallsBy α := callsE (M := M) [code_of.e K, wire_Writer_Byte.e K, wire_Writer_Uint.e K, wire_Writer_Int.e K]
noncomputable def l0.h : SSh := ⟨[0, 57, 58, 59], (.cons (.ptr 0 0) (.cons (.ty (.slice yI)) (.cons (.ty yI) (.ty yI)))), [.cells 188 0 (.own 2), .dead, .list 5 (.int .u8) []]⟩
noncomputable def l0.x : SSh := ⟨[], .unit, [.cells 188 0 (.own 2), .dead, .list 5 (.int .u8) []]⟩
noncomputable def l0.cx : l0.h.I → (List Int) → l0.x.I := fun x r => ((), ((), ((), (r, ()))))
noncomputable def l0.f (K : Nat) : Nat → List Int → Int → Int → List Int → Option (List Int)
  | 0, _, _, _, _ => none
  | k + 1, a0, a1, a2, a3 => bif decide (a2 < a1) then bif decide ((0 : Int) ≤ a2) && true then a0[a2.toNat]?.bind fun t => (wire_Writer_Uint.f K (IntKind.u64.wrap t) a3).bind fun t => l0.f K k a0 a1 (IntKind.i64.wrap (a2 + (1 : Int))) t else none else some a3
noncomputable def l0.F (K : Nat) (k : Nat) : l0.h.I → Option (List Int) := fun x => l0.f K k x.1.2.1 x.1.2.2.1 x.1.2.2.2 x.2.2.2.1
noncomputable def l0.lp {α : Type} (K : Nat) : St → Kn α → Option α := lpX 2 68 1 l0.h l0.x (l0.F K K) l0.cx
theorem l0.ok {α : Type} (K : Nat) : LoopOk (α := α) M 2 (nthLoop Tryz.f96 0) (l0.lp K) := lpX_okS (C := (C K)) (LP := noLoops) (RF := noRefit) (CP := noCuts) (L := 20) callsE_ok mxd noRefit_ok noCuts_ok (noL (by kernel_rfl)) (lb rfl) (lb rfl) (fun x => rfl) fun k x => by
  rw [withCv_def]
  unfold l0.F
  rw [l0.f]
  try simp only [el]
  kernel_rfl
noncomputable def f (K : Nat) (a0 : Int) (a1 : Int) (a2 : Int) (a3 : Int) (a4 : Int) (a5 : List Int) (a6 : List Int) : Option (List Int) := (code_of.f K a0).bind fun t => (wire_Writer_Byte.f K (IntKind.u8.wrap a0) a6).bind fun t_1 => bif t.1 then (wire_Writer_Uint.f K (IntKind.u64.wrap a1) t_1).bind fun t_2 => bif t.2.1 then (wire_Writer_Uint.f K (IntKind.u64.wrap a2) t_2).bind fun t_3 => bif t.2.2.1 then (wire_Writer_Uint.f K (IntKind.u64.wrap a3) t_3).bind fun t => bif a0 == (1 : Int) then wire_Writer_Int.f K a4 t else bif a0 == (17 : Int) then (wire_Writer_Uint.f K (IntKind.u64.wrap (↑a5.length : Int)) t).bind fun t => l0.f K K a5 (↑a5.length : Int) (0 : Int) t else some t else bif a0 == (1 : Int) then wire_Writer_Int.f K a4 t_3 else bif a0 == (17 : Int) then (wire_Writer_Uint.f K (IntKind.u64.wrap (↑a5.length : Int)) t_3).bind fun t => l0.f K K a5 (↑a5.length : Int) (0 : Int) t else some t_3 else bif t.2.2.1 then (wire_Writer_Uint.f K (IntKind.u64.wrap a3) t_2).bind fun t => bif a0 == (1 : Int) then wire_Writer_Int.f K a4 t else bif a0 == (17 : Int) then (wire_Writer_Uint.f K (IntKind.u64.wrap (↑a5.length : Int)) t).bind fun t => l0.f K K a5 (↑a5.length : Int) (0 : Int) t else some t else bif a0 == (1 : Int) then wire_Writer_Int.f K a4 t_2 else bif a0 == (17 : Int) then (wire_Writer_Uint.f K (IntKind.u64.wrap (↑a5.length : Int)) t_2).bind fun t => l0.f K K a5 (↑a5.length : Int) (0 : Int) t else some t_2 else bif t.2.1 then (wire_Writer_Uint.f K (IntKind.u64.wrap a2) t_1).bind fun t_2 => bif t.2.2.1 then (wire_Writer_Uint.f K (IntKind.u64.wrap a3) t_2).bind fun t => bif a0 == (1 : Int) then wire_Writer_Int.f K a4 t else bif a0 == (17 : Int) then (wire_Writer_Uint.f K (IntKind.u64.wrap (↑a5.length : Int)) t).bind fun t => l0.f K K a5 (↑a5.length : Int) (0 : Int) t else some t else bif a0 == (1 : Int) then wire_Writer_Int.f K a4 t_2 else bif a0 == (17 : Int) then (wire_Writer_Uint.f K (IntKind.u64.wrap (↑a5.length : Int)) t_2).bind fun t => l0.f K K a5 (↑a5.length : Int) (0 : Int) t else some t_2 else bif t.2.2.1 then (wire_Writer_Uint.f K (IntKind.u64.wrap a3) t_1).bind fun t => bif a0 == (1 : Int) then wire_Writer_Int.f K a4 t else bif a0 == (17 : Int) then (wire_Writer_Uint.f K (IntKind.u64.wrap (↑a5.length : Int)) t).bind fun t => l0.f K K a5 (↑a5.length : Int) (0 : Int) t else some t else bif a0 == (1 : Int) then wire_Writer_Int.f K a4 t_1 else bif a0 == (17 : Int) then (wire_Writer_Uint.f K (IntKind.u64.wrap (↑a5.length : Int)) t_1).bind fun t => l0.f K K a5 (↑a5.length : Int) (0 : Int) t else some t_1
noncomputable def F (K : Nat) : sig.In → Option (List Int) := fun x => f K x.1.2.1 x.1.2.2.1 x.1.2.2.2.1 x.1.2.2.2.2.1 x.1.2.2.2.2.2.1 x.1.2.2.2.2.2.2 x.2.2.1
noncomputable def cv : sig.In → (List Int) → sig.Ou := fun x r => ((), ((), ((), (r, ()))))
theorem rets (K : Nat) : ∀ x y, withCv (F K) cv x = some y → Rets M 96 sig x y := runF_retsS (C := (C K)) (LP := (lpPut 15 (l0.lp K) noLoops)) (RF := noRefit) (CP := noCuts) callsE_ok mxd noRefit_ok noCuts_ok (show LoopsOk M 2 (lpPut 15 (l0.lp K) noLoops) (loopsOf (bodyOf Tryz.f96)) from (show loopsOf (bodyOf Tryz.f96) = [nthLoop Tryz.f96 0] by kernel_rfl) ▸ (loopsOk_put (key := 15) (by kernel_rfl) (l0.ok K) noLoops_ok (by kernel_rfl))) (lb rfl) Tryz.func96 (by kernel_rfl) fun x => by
  rw [withCv_def]
  unfold F f
  try simp only [el]
  kernel_rfl
noncomputable def e (K : Nat) : En M := ⟨96, sig, _, F K, cv, by rfl, Tryz.f96, Tryz.func96, by kernel_rfl, rfl, rets K⟩
end code_putInsn
namespace code_putEnd
noncomputable def sig : Sig := ⟨(.cons (.ptr 0 0) (.agg (.cons (.ty yI) (.cons (.ty yI) (.cons (.ty yI) (.ty yI)))))), [.cells 188 0 (.own 1), .list 5 (.int .u8) []], .unit, [.cells 188 0 (.own 2), .dead, .list 5 (.int .u8) []]⟩
noncomputable def C {α : Type} (K : Nat) : CallsBy α := callsE (M := M) [wire_Writer_Byte.e K, wire_Writer_Uint.e K]
noncomputable def f (K : Nat) (a0 : Int) (a1 : Int) (a2 : Int) (a3 : Int) (a4 : List Int) : Option (List Int) := (wire_Writer_Byte.f K (IntKind.u8.wrap a0) a4).bind fun t => bif a0 == (1 : Int) then wire_Writer_Uint.f K (IntKind.u64.wrap a2) t else bif a0 == (2 : Int) then (wire_Writer_Uint.f K (IntKind.u64.wrap a1) t).bind fun t => (wire_Writer_Uint.f K (IntKind.u64.wrap a2) t).bind fun t => wire_Writer_Uint.f K (IntKind.u64.wrap a3) t else bif a0 == (3 : Int) then wire_Writer_Uint.f K (IntKind.u64.wrap a1) t else some t
noncomputable def F (K : Nat) : sig.In → Option (List Int) := fun x => f K x.1.2.1 x.1.2.2.1 x.1.2.2.2.1 x.1.2.2.2.2 x.2.2.1
noncomputable def cv : sig.In → (List Int) → sig.Ou := fun x r => ((), ((), ((), (r, ()))))
theorem rets (K : Nat) : ∀ x y, withCv (F K) cv x = some y → Rets M 97 sig x y := runF_retsS (C := (C K)) (LP := noLoops) (RF := noRefit) (CP := noCuts) callsE_ok mxd noRefit_ok noCuts_ok (noL (by kernel_rfl)) (lb rfl) Tryz.func97 (by kernel_rfl) fun x => by
  rw [withCv_def]
  unfold F f
  try simp only [el]
  kernel_rfl
noncomputable def e (K : Nat) : En M := ⟨97, sig, _, F K, cv, by rfl, Tryz.f97, Tryz.func97, by kernel_rfl, rfl, rets K⟩
end code_putEnd
namespace code_putFunc
noncomputable def sig : Sig := ⟨(.cons (.ptr 0 0) (.agg (.cons (.ty .str) (.cons (.ty yI) (.cons (.ty yI) (.ty (.slice yBlock))))))), [.cells 188 0 (.own 1), .list 5 (.int .u8) []], .unit, [.cells 188 0 (.own 2), .dead, .list 5 (.int .u8) []]⟩
noncomputable def C {α : Type} (K : Nat) : CallsBy α := callsE (M := M) [wire_Writer_Section.e K, wire_Writer_Uint.e K, code_putInsn.e K, code_putEnd.e K]
noncomputable def l1.h : SSh := ⟨[0, 5, 30, 31, 32, 43, 44, 45], (.cons (.ptr 0 0) (.cons (.ptr 2 0) (.cons (.ty (.slice yBlock)) (.cons (.ty yI) (.cons (.ty yI) (.cons (.ty (.slice yInsn)) (.cons (.ty yI) (.ty yI)))))))), [.cells 188 0 (.own 3), .dead, .cells 91 0 (.cons (.ty (.slice yInsn)) (.cons (.ty yI) (.cons (.ty yI) (.cons (.ty yI) (.ty yI))))), .list 5 (.int .u8) []]⟩
noncomputable def l1.x : SSh := ⟨[0, 5, 30, 31, 32], (.cons (.ptr 0 0) (.cons (.ptr 2 0) (.cons (.ty (.slice yBlock)) (.cons (.ty yI) (.ty yI))))), [.cells 188 0 (.own 3), .dead, .cells 91 0 (.cons (.ty (.slice yInsn)) (.cons (.ty yI) (.cons (.ty yI) (.cons (.ty yI) (.ty yI))))), .list 5 (.int .u8) []]⟩
noncomputable def l1.cx : l1.h.I → (List Int) → l1.x.I := fun x r => (((), ((), (x.1.2.2.1, (x.1.2.2.2.1, x.1.2.2.2.2.1)))), ((), ((), ((x.2.2.2.1.1, (x.2.2.2.1.2.1, (x.2.2.2.1.2.2.1, (x.2.2.2.1.2.2.2.1, x.2.2.2.1.2.2.2.2)))), (r, ())))))
noncomputable def l1.f (K : Nat) : Nat → List LInsn → Int → Int → List Int → Option (List Int)
  | 0, _, _, _, _ => none
  | k + 1, a3, a4, a5, a11 => bif decide (a5 < a4) then bif decide ((0 : Int) ≤ a5) && true then a3[a5.toNat]?.bind fun t => (code_putInsn.f K t.1 t.2.1 t.2.2.1 t.2.2.2.1 t.2.2.2.2.1 t.2.2.2.2.2 a11).bind fun t => l1.f K k a3 a4 (IntKind.i64.wrap (a5 + (1 : Int))) t else none else some a11
noncomputable def l1.F (K : Nat) (k : Nat) : l1.h.I → Option (List Int) := fun x => l1.f K k x.1.2.2.2.2.2.1 x.1.2.2.2.2.2.2.1 x.1.2.2.2.2.2.2.2 x.2.2.2.2.1
noncomputable def l1.lp {α : Type} (K : Nat) : St → Kn α → Option α := lpX 2 58 2 l1.h l1.x (l1.F K K) l1.cx
theorem l1.ok {α : Type} (K : Nat) : LoopOk (α := α) M 2 (nthLoop Tryz.f43 1) (l1.lp K) := lpX_okS (C := (C K)) (LP := noLoops) (RF := noRefit) (CP := noCuts) (L := 20) callsE_ok mxd noRefit_ok noCuts_ok (noL (by kernel_rfl)) (lb rfl) (lb rfl) (fun x => rfl) fun k x => by
  rw [withCv_def]
  unfold l1.F
  rw [l1.f]
  try simp only [el]
  kernel_rfl
noncomputable def l0.h : SSh := ⟨[0, 30, 31, 32], (.cons (.ptr 0 0) (.cons (.ty (.slice yBlock)) (.cons (.ty yI) (.ty yI)))), [.cells 188 0 (.own 2), .dead, .list 5 (.int .u8) []]⟩
noncomputable def l0.x : SSh := ⟨[], .unit, [.cells 188 0 (.own 2), .dead, .list 5 (.int .u8) []]⟩
noncomputable def l0.cx : l0.h.I → (List Int) → l0.x.I := fun x r => ((), ((), ((), (r, ()))))
noncomputable def l0.f (K : Nat) : Nat → List LBlock → Int → Int → List Int → Option (List Int)
  | 0, _, _, _, _ => none
  | k + 1, a0, a1, a2, a3 => bif decide (a2 < a1) then bif decide ((0 : Int) ≤ a2) && true then a0[a2.toNat]?.bind fun t => (wire_Writer_Uint.f K (IntKind.u64.wrap (↑(List.length t.1) : Int)) a3).bind fun t_1 => (l1.f K K t.1 (↑(List.length t.1) : Int) (0 : Int) t_1).bind fun t_2 => (code_putEnd.f K t.2.1 t.2.2.1 t.2.2.2.1 t.2.2.2.2 t_2).bind fun t => l0.f K k a0 a1 (IntKind.i64.wrap (a2 + (1 : Int))) t else none else some a3
noncomputable def l0.F (K : Nat) (k : Nat) : l0.h.I → Option (List Int) := fun x => l0.f K k x.1.2.1 x.1.2.2.1 x.1.2.2.2 x.2.2.2.1
noncomputable def l0.lp {α : Type} (K : Nat) : St → Kn α → Option α := lpX 2 58 0 l0.h l0.x (l0.F K K) l0.cx
theorem l0.ok {α : Type} (K : Nat) : LoopOk (α := α) M 2 (nthLoop Tryz.f43 0) (l0.lp K) := lpX_okS (C := (C K)) (LP := (lpPut 10 (l1.lp K) noLoops)) (RF := noRefit) (CP := noCuts) (L := 20) callsE_ok mxd noRefit_ok noCuts_ok (show LoopsOk M 2 (lpPut 10 (l1.lp K) noLoops) (loopsOf (nthLoop Tryz.f43 0)) from (show loopsOf (nthLoop Tryz.f43 0) = [nthLoop Tryz.f43 1] by kernel_rfl) ▸ (loopsOk_put (key := 10) (by kernel_rfl) (l1.ok K) noLoops_ok (by kernel_rfl))) (lb rfl) (lb rfl) (fun x => rfl) fun k x => by
  rw [withCv_def]
  unfold l0.F
  rw [l0.f]
  try simp only [el]
  kernel_rfl
noncomputable def f (K : Nat) (a0 : ByteArray) (a1 : Int) (a2 : Int) (a3 : List LBlock) (a4 : List Int) : Option (List Int) := bif a0.size.ble (100000 : Nat) then (wire_Writer_Section.f K (bytesOf a0) a4).bind fun t => (wire_Writer_Uint.f K (IntKind.u64.wrap a1) t).bind fun t => (wire_Writer_Uint.f K (IntKind.u64.wrap a2) t).bind fun t => (wire_Writer_Uint.f K (IntKind.u64.wrap (↑a3.length : Int)) t).bind fun t => l0.f K K a3 (↑a3.length : Int) (0 : Int) t else none
noncomputable def F (K : Nat) : sig.In → Option (List Int) := fun x => f K x.1.2.1 x.1.2.2.1 x.1.2.2.2.1 x.1.2.2.2.2 x.2.2.1
noncomputable def cv : sig.In → (List Int) → sig.Ou := fun x r => ((), ((), ((), (r, ()))))
theorem rets (K : Nat) : ∀ x y, withCv (F K) cv x = some y → Rets M 43 sig x y := runF_retsS (C := (C K)) (LP := (lpPut 6 (l0.lp K) (lpPut 10 (l1.lp K) noLoops))) (RF := noRefit) (CP := noCuts) callsE_ok mxd noRefit_ok noCuts_ok (show LoopsOk M 2 (lpPut 6 (l0.lp K) (lpPut 10 (l1.lp K) noLoops)) (loopsOf (bodyOf Tryz.f43)) from (show loopsOf (bodyOf Tryz.f43) = [nthLoop Tryz.f43 0, nthLoop Tryz.f43 1] by kernel_rfl) ▸ (loopsOk_put (key := 6) (by kernel_rfl) (l0.ok K) (loopsOk_put (key := 10) (by kernel_rfl) (l1.ok K) noLoops_ok (by kernel_rfl)) (by kernel_rfl))) (lb rfl) Tryz.func43 (by kernel_rfl) fun x => by
  rw [withCv_def]
  unfold F f
  try simp only [el]
  kernel_rfl
noncomputable def e (K : Nat) : En M := ⟨43, sig, _, F K, cv, by rfl, Tryz.f43, Tryz.func43, by kernel_rfl, rfl, rets K⟩
end code_putFunc
noncomputable def slices_Clone_byte_byte.sig : Sig := ⟨(.ty (.slice (.int .u8))), [], (.ty (.slice (.int .u8))), []⟩
noncomputable def slices_Clone_byte_byte.f (K : Nat) (a0 : List Int) : Option (List Int) := bif (0 + a0.length).ble 100000 then some a0 else none
noncomputable def slices_Clone_byte_byte.F (K : Nat) : slices_Clone_byte_byte.sig.In → Option (List Int) := fun x => slices_Clone_byte_byte.f K x.1
noncomputable def slices_Clone_byte_byte.cv : slices_Clone_byte_byte.sig.In → (List Int) → slices_Clone_byte_byte.sig.Ou := fun x r => (r, ())
theorem slices_Clone_byte_byte.rets (K : Nat) : ∀ x y, withCv (slices_Clone_byte_byte.F K) slices_Clone_byte_byte.cv x = some y → Rets M 98 slices_Clone_byte_byte.sig x y := fun x y h =>
  clone_rets (M := M) (g := slices_Clone_byte_byte.sig) (T := (.int .u8)) (e := 5) (n := 8) (L := 1) (x := x.1) (args0 := x.1) (G := fun xs => bif (0 + xs.length).ble 100000 then some (slices_Clone_byte_byte.cv (xs, ()) xs) else none) (by kernel_rfl) Tryz.func98 (show Tryz.f98.body = some (.seq _ (.seq (.seq (.region _ #[⟨some 3, .move (.tmp 0), _, _, _, none⟩, ⟨some 4, .binOp .eql _ (.tmp 3) (.const (.slice none 0 0)) _, _, _, _, none⟩] false) _) _)) from rfl)
    (by kernel_rfl) rfl rfl (by kernel_rfl) (by decide) (by kernel_rfl) (by kernel_rfl) (by kernel_rfl) (by kernel_rfl) (by kernel_rfl) (by kernel_rfl) (Eq.trans (show (bif (0 + x.1.length).ble 100000 then some (slices_Clone_byte_byte.cv x x.1) else none) = (bif (0 + x.1.length).ble 100000 then some x.1 else none).bind fun r => some (slices_Clone_byte_byte.cv x r) by rw [cond_bind]; rfl) h) x.2
noncomputable def slices_Clone_byte_byte.e (K : Nat) : En M := ⟨98, slices_Clone_byte_byte.sig, _, slices_Clone_byte_byte.F K, slices_Clone_byte_byte.cv, by rfl, Tryz.f98, Tryz.func98, by kernel_rfl, rfl, slices_Clone_byte_byte.rets K⟩
noncomputable def slices_Clone_byte_byte_own.sig : Sig := ⟨(.ty (.slice (.int .u8))), [], (.own 0), [.list 5 (.int .u8) []]⟩
noncomputable def slices_Clone_byte_byte_own.f (K : Nat) (a0 : List Int) : Option (List Int) := bif (0 + a0.length).ble 100000 then some a0 else none
noncomputable def slices_Clone_byte_byte_own.F (K : Nat) : slices_Clone_byte_byte_own.sig.In → Option (List Int) := fun x => slices_Clone_byte_byte_own.f K x.1
noncomputable def slices_Clone_byte_byte_own.cv : slices_Clone_byte_byte_own.sig.In → (List Int) → slices_Clone_byte_byte_own.sig.Ou := fun x r => ((), (r, ()))
theorem slices_Clone_byte_byte_own.rets (K : Nat) : ∀ x y, withCv (slices_Clone_byte_byte_own.F K) slices_Clone_byte_byte_own.cv x = some y → Rets M 98 slices_Clone_byte_byte_own.sig x y := fun x y h =>
  clone_rets (M := M) (g := slices_Clone_byte_byte_own.sig) (T := (.int .u8)) (e := 5) (n := 8) (L := 1) (x := x.1) (args0 := x.1) (G := fun xs => bif (0 + xs.length).ble 100000 then some (slices_Clone_byte_byte_own.cv (xs, ()) xs) else none) (by kernel_rfl) Tryz.func98 (show Tryz.f98.body = some (.seq _ (.seq (.seq (.region _ #[⟨some 3, .move (.tmp 0), _, _, _, none⟩, ⟨some 4, .binOp .eql _ (.tmp 3) (.const (.slice none 0 0)) _, _, _, _, none⟩] false) _) _)) from rfl)
    (by kernel_rfl) rfl rfl (by kernel_rfl) (by decide) (by kernel_rfl) (by kernel_rfl) (by kernel_rfl) (by kernel_rfl) (by kernel_rfl) (by kernel_rfl) (Eq.trans (show (bif (0 + x.1.length).ble 100000 then some (slices_Clone_byte_byte_own.cv x x.1) else none) = (bif (0 + x.1.length).ble 100000 then some x.1 else none).bind fun r => some (slices_Clone_byte_byte_own.cv x r) by rw [cond_bind]; rfl) h) x.2
noncomputable def slices_Clone_byte_byte_own.e (K : Nat) : En M := ⟨98, slices_Clone_byte_byte_own.sig, _, slices_Clone_byte_byte_own.F K, slices_Clone_byte_byte_own.cv, by rfl, Tryz.f98, Tryz.func98, by kernel_rfl, rfl, slices_Clone_byte_byte_own.rets K⟩
noncomputable def slices_Clone_byte_byte_in.sig : Sig := ⟨(.own 0), [.list 5 (.int .u8) []], (.ty (.slice (.int .u8))), [.list 5 (.int .u8) []]⟩
noncomputable def slices_Clone_byte_byte_in.f (K : Nat) (a0 : List Int) : Option (List Int) := bif (0 + a0.length).ble 100000 then some a0 else none
noncomputable def slices_Clone_byte_byte_in.F (K : Nat) : slices_Clone_byte_byte_in.sig.In → Option (List Int) := fun x => slices_Clone_byte_byte_in.f K x.2.1
noncomputable def slices_Clone_byte_byte_in.cv : slices_Clone_byte_byte_in.sig.In → (List Int) → slices_Clone_byte_byte_in.sig.Ou := fun x r => (r, (x.2.1, ()))
theorem slices_Clone_byte_byte_in.rets (K : Nat) : ∀ x y, withCv (slices_Clone_byte_byte_in.F K) slices_Clone_byte_byte_in.cv x = some y → Rets M 98 slices_Clone_byte_byte_in.sig x y := fun x y h =>
  cloneO_rets (M := M) (g := slices_Clone_byte_byte_in.sig) (T := (.int .u8)) (e := 5) (n := 8) (L := 1) (x := x.2.1) (args0 := x.1) (z := x.2) (G := fun xs => bif (0 + xs.length).ble 100000 then some (slices_Clone_byte_byte_in.cv ((), (xs, ())) xs) else none) (by kernel_rfl) Tryz.func98 (show Tryz.f98.body = some (.seq _ (.seq (.seq (.region _ #[⟨some 3, .move (.tmp 0), _, _, _, none⟩, ⟨some 4, .binOp .eql _ (.tmp 3) (.const (.slice none 0 0)) _, _, _, _, none⟩] false) _) _)) from rfl)
    (by kernel_rfl) rfl rfl rfl (by decide) (by decide) (by kernel_rfl) (by decide) (by kernel_rfl) (by kernel_rfl) (by kernel_rfl) (by kernel_rfl) (by kernel_rfl) (by kernel_rfl) (Eq.trans (show (bif (0 + x.2.1.length).ble 100000 then some (slices_Clone_byte_byte_in.cv x x.2.1) else none) = (bif (0 + x.2.1.length).ble 100000 then some x.2.1 else none).bind fun r => some (slices_Clone_byte_byte_in.cv x r) by rw [cond_bind]; rfl) h)
noncomputable def slices_Clone_byte_byte_in.e (K : Nat) : En M := ⟨98, slices_Clone_byte_byte_in.sig, _, slices_Clone_byte_byte_in.F K, slices_Clone_byte_byte_in.cv, by rfl, Tryz.f98, Tryz.func98, by kernel_rfl, rfl, slices_Clone_byte_byte_in.rets K⟩
namespace wire_Writer_Bytes
noncomputable def sig : Sig := ⟨(.ptr 0 0), [.cells 188 0 (.own 1), .list 5 (.int .u8) []], (.ty (.slice (.int .u8))), [.cells 188 0 (.own 1), .list 5 (.int .u8) []]⟩
noncomputable def C {α : Type} (K : Nat) : CallsBy α := callsE (M := M) [slices_Clone_byte_byte_in.e K]
noncomputable def f (K : Nat) (a0 : List Int) : Option (List Int) := slices_Clone_byte_byte_in.f K a0
noncomputable def F (K : Nat) : sig.In → Option (List Int) := fun x => f K x.2.2.1
noncomputable def cv : sig.In → (List Int) → sig.Ou := fun x r => (r, ((), (x.2.2.1, ())))
theorem rets (K : Nat) : ∀ x y, withCv (F K) cv x = some y → Rets M 45 sig x y := runF_retsS (C := (C K)) (LP := noLoops) (RF := noRefit) (CP := noCuts) callsE_ok mxd noRefit_ok noCuts_ok (noL (by kernel_rfl)) (lb rfl) Tryz.func45 (by kernel_rfl) fun x => by
  rw [withCv_def]
  unfold F f
  try simp only [el]
  kernel_rfl
noncomputable def e (K : Nat) : En M := ⟨45, sig, _, F K, cv, by rfl, Tryz.f45, Tryz.func45, by kernel_rfl, rfl, rets K⟩
end wire_Writer_Bytes
namespace code_Write
noncomputable def sig : Sig := ⟨(.agg (.cons (.ty (.slice yI)) (.cons (.ty (.slice yFunc)) (.ty (.slice yImport))))), [], (.cons (.ty (.slice (.int .u8))) (.ty .err)), []⟩
noncomputable def C {α : Type} (K : Nat) : CallsBy α := callsE (M := M) [ir_Check.e K, wire_New.e K, wire_Writer_Raw.e K, wire_Writer_Uint.e K, wire_Writer_Int.e K, code_putFunc.e K, wire_Writer_Section.e K, wire_Writer_Bytes.e K]
noncomputable def l2.h : SSh := ⟨[5, 63, 64, 65], (.cons (.ptr 0 0) (.cons (.ty (.slice yImport)) (.cons (.ty yI) (.ty yI)))), [.cells 188 0 (.own 1), .list 5 (.int .u8) []]⟩
noncomputable def l2.x : SSh := ⟨[5], (.ptr 0 0), [.cells 188 0 (.own 1), .list 5 (.int .u8) []]⟩
noncomputable def l2.cx : l2.h.I → (List Int) → l2.x.I := fun x r => ((), ((), (r, ())))
noncomputable def l2.f (K : Nat) : Nat → List LImport → Int → Int → List Int → Option (List Int)
  | 0, _, _, _, _ => none
  | k + 1, a0, a1, a2, a3 => bif decide (a2 < a1) then bif decide ((0 : Int) ≤ a2) && true then a0[a2.toNat]?.bind fun t => bif (ByteArray.size t.1).ble (100000 : Nat) then (wire_Writer_Section.f K (bytesOf t.1) a3).bind fun t_1 => (wire_Writer_Uint.f K (IntKind.u64.wrap t.2) t_1).bind fun t => l2.f K k a0 a1 (IntKind.i64.wrap (a2 + (1 : Int))) t else none else none else some a3
noncomputable def l2.F (K : Nat) (k : Nat) : l2.h.I → Option (List Int) := fun x => l2.f K k x.1.2.1 x.1.2.2.1 x.1.2.2.2 x.2.2.1
noncomputable def l2.lp {α : Type} (K : Nat) : St → Kn α → Option α := lpX 0 82 4 l2.h l2.x (l2.F K K) l2.cx
theorem l2.ok {α : Type} (K : Nat) : LoopOk (α := α) M 0 (nthLoop Tryz.f9 2) (l2.lp K) := lpX_okS (C := (C K)) (LP := noLoops) (RF := noRefit) (CP := noCuts) (L := 20) callsE_ok mxd noRefit_ok noCuts_ok (noL (by kernel_rfl)) (lb rfl) (lb rfl) (fun x => rfl) fun k x => by
  rw [withCv_def]
  unfold l2.F
  rw [l2.f]
  try simp only [el]
  kernel_rfl
noncomputable def l1.h : SSh := ⟨[1, 5, 46, 47, 48], (.cons (.ptr 0 0) (.cons (.ptr 1 0) (.cons (.ty (.slice yFunc)) (.cons (.ty yI) (.ty yI))))), [.cells 35 0 (.cons (.ty (.slice yI)) (.cons (.ty (.slice yFunc)) (.ty (.slice yImport)))), .cells 188 0 (.own 2), .list 5 (.int .u8) []]⟩
noncomputable def l1.x : SSh := ⟨[1, 5], (.cons (.ptr 0 0) (.ptr 1 0)), [.cells 35 0 (.cons (.ty (.slice yI)) (.cons (.ty (.slice yFunc)) (.ty (.slice yImport)))), .cells 188 0 (.own 2), .list 5 (.int .u8) []]⟩
noncomputable def l1.cx : l1.h.I → (List Int) → l1.x.I := fun x r => (((), ()), ((x.2.1.1, (x.2.1.2.1, x.2.1.2.2)), ((), (r, ()))))
noncomputable def l1.f (K : Nat) : Nat → List LFunc → Int → Int → List Int → Option (List Int)
  | 0, _, _, _, _ => none
  | k + 1, a0, a1, a2, a6 => bif decide (a2 < a1) then bif decide ((0 : Int) ≤ a2) && true then a0[a2.toNat]?.bind fun t => (code_putFunc.f K t.1 t.2.1 t.2.2.1 t.2.2.2 a6).bind fun t => l1.f K k a0 a1 (IntKind.i64.wrap (a2 + (1 : Int))) t else none else some a6
noncomputable def l1.F (K : Nat) (k : Nat) : l1.h.I → Option (List Int) := fun x => l1.f K k x.1.2.2.1 x.1.2.2.2.1 x.1.2.2.2.2 x.2.2.2.1
noncomputable def l1.lp {α : Type} (K : Nat) : St → Kn α → Option α := lpX 0 82 2 l1.h l1.x (l1.F K K) l1.cx
theorem l1.ok {α : Type} (K : Nat) : LoopOk (α := α) M 0 (nthLoop Tryz.f9 1) (l1.lp K) := lpX_okS (C := (C K)) (LP := noLoops) (RF := noRefit) (CP := noCuts) (L := 20) callsE_ok mxd noRefit_ok noCuts_ok (noL (by kernel_rfl)) (lb rfl) (lb rfl) (fun x => rfl) fun k x => by
  rw [withCv_def]
  unfold l1.F
  rw [l1.f]
  try simp only [el]
  kernel_rfl
noncomputable def l0.h : SSh := ⟨[1, 5, 29, 30, 31], (.cons (.ptr 0 0) (.cons (.ptr 1 0) (.cons (.ty (.slice yI)) (.cons (.ty yI) (.ty yI))))), [.cells 35 0 (.cons (.ty (.slice yI)) (.cons (.ty (.slice yFunc)) (.ty (.slice yImport)))), .cells 188 0 (.own 2), .list 5 (.int .u8) []]⟩
noncomputable def l0.x : SSh := ⟨[1, 5], (.cons (.ptr 0 0) (.ptr 1 0)), [.cells 35 0 (.cons (.ty (.slice yI)) (.cons (.ty (.slice yFunc)) (.ty (.slice yImport)))), .cells 188 0 (.own 2), .list 5 (.int .u8) []]⟩
noncomputable def l0.cx : l0.h.I → (List Int) → l0.x.I := fun x r => (((), ()), ((x.2.1.1, (x.2.1.2.1, x.2.1.2.2)), ((), (r, ()))))
noncomputable def l0.f (K : Nat) : Nat → List Int → Int → Int → List Int → Option (List Int)
  | 0, _, _, _, _ => none
  | k + 1, a0, a1, a2, a6 => bif decide (a2 < a1) then bif decide ((0 : Int) ≤ a2) && true then a0[a2.toNat]?.bind fun t => (wire_Writer_Int.f K t a6).bind fun t => l0.f K k a0 a1 (IntKind.i64.wrap (a2 + (1 : Int))) t else none else some a6
noncomputable def l0.F (K : Nat) (k : Nat) : l0.h.I → Option (List Int) := fun x => l0.f K k x.1.2.2.1 x.1.2.2.2.1 x.1.2.2.2.2 x.2.2.2.1
noncomputable def l0.lp {α : Type} (K : Nat) : St → Kn α → Option α := lpX 0 82 0 l0.h l0.x (l0.F K K) l0.cx
theorem l0.ok {α : Type} (K : Nat) : LoopOk (α := α) M 0 (nthLoop Tryz.f9 0) (l0.lp K) := lpX_okS (C := (C K)) (LP := noLoops) (RF := noRefit) (CP := noCuts) (L := 20) callsE_ok mxd noRefit_ok noCuts_ok (noL (by kernel_rfl)) (lb rfl) (lb rfl) (fun x => rfl) fun k x => by
  rw [withCv_def]
  unfold l0.F
  rw [l0.f]
  try simp only [el]
  kernel_rfl
noncomputable def f (K : Nat) (a0 : List Int) (a1 : List LFunc) (a2 : List LImport) : Option (List Int × Err) := (ir_Check.f K a0 a1 a2).bind fun t => bif bif true then !t.isNil else t.isNil then some ([], t) else (wire_New.f K).bind fun t => (wire_Writer_Raw.f K [(65 : Int), (86 : Int), (1 : Int)] t).bind fun t => (wire_Writer_Uint.f K (IntKind.u64.wrap (↑a0.length : Int)) t).bind fun t => (l0.f K K a0 (↑a0.length : Int) (0 : Int) t).bind fun t => (wire_Writer_Uint.f K (IntKind.u64.wrap (↑a1.length : Int)) t).bind fun t => (l1.f K K a1 (↑a1.length : Int) (0 : Int) t).bind fun t => (wire_Writer_Uint.f K (IntKind.u64.wrap (↑a2.length : Int)) t).bind fun t => (l2.f K K a2 (↑a2.length : Int) (0 : Int) t).bind fun t => (wire_Writer_Bytes.f K t).bind fun t => some (t, Err.nil)
noncomputable def F (K : Nat) : sig.In → Option (List Int × Err) := fun x => f K x.1.1 x.1.2.1 x.1.2.2
noncomputable def cv : sig.In → (List Int × Err) → sig.Ou := fun x r => ((r.1, r.2), ())
theorem rets (K : Nat) : ∀ x y, withCv (F K) cv x = some y → Rets M 9 sig x y := runF_retsS (C := (C K)) (LP := (lpPut 8 (l0.lp K) (lpPut 14 (l1.lp K) (lpPut 20 (l2.lp K) noLoops)))) (RF := noRefit) (CP := noCuts) callsE_ok mxd noRefit_ok noCuts_ok (show LoopsOk M 0 (lpPut 8 (l0.lp K) (lpPut 14 (l1.lp K) (lpPut 20 (l2.lp K) noLoops))) (loopsOf (bodyOf Tryz.f9)) from (show loopsOf (bodyOf Tryz.f9) = [nthLoop Tryz.f9 0, nthLoop Tryz.f9 1, nthLoop Tryz.f9 2] by kernel_rfl) ▸ (loopsOk_put (key := 8) (by kernel_rfl) (l0.ok K) (loopsOk_put (key := 14) (by kernel_rfl) (l1.ok K) (loopsOk_put (key := 20) (by kernel_rfl) (l2.ok K) noLoops_ok (by kernel_rfl)) (by kernel_rfl)) (by kernel_rfl))) (lb rfl) Tryz.func9 (by kernel_rfl) fun x => by
  rw [withCv_def]
  unfold F f
  try simp only [el]
  kernel_rfl
noncomputable def e (K : Nat) : En M := ⟨9, sig, _, F K, cv, by rfl, Tryz.f9, Tryz.func9, by kernel_rfl, rfl, rets K⟩
end code_Write
namespace wire_Read
noncomputable def sig : Sig := ⟨(.ty (.slice (.int .u8))), [], (.ptr 0 0), [.cells 199 0 (.cons (.ty (.slice (.int .u8))) (.ty yI))]⟩
noncomputable def C {α : Type} (K : Nat) : CallsBy α := callsE (M := M) [slices_Clone_byte_byte.e K]
noncomputable def f (K : Nat) (a0 : List Int) : Option (List Int × Int) := (slices_Clone_byte_byte.f K a0).bind fun t => some (t, (0 : Int))
noncomputable def F (K : Nat) : sig.In → Option (List Int × Int) := fun x => f K x.1
noncomputable def cv : sig.In → (List Int × Int) → sig.Ou := fun x r => ((), ((r.1, r.2), ()))
theorem rets (K : Nat) : ∀ x y, withCv (F K) cv x = some y → Rets M 47 sig x y := runF_retsS (C := (C K)) (LP := noLoops) (RF := noRefit) (CP := noCuts) callsE_ok mxd noRefit_ok noCuts_ok (noL (by kernel_rfl)) (lb rfl) Tryz.func47 (by kernel_rfl) fun x => by
  rw [withCv_def]
  unfold F f
  try simp only [el]
  kernel_rfl
noncomputable def e (K : Nat) : En M := ⟨47, sig, _, F K, cv, by rfl, Tryz.f47, Tryz.func47, by kernel_rfl, rfl, rets K⟩
end wire_Read
namespace wire_Reader_At
noncomputable def sig : Sig := ⟨(.ptr 0 0), [.cells 199 0 (.cons (.ty (.slice (.int .u8))) (.ty yI))], (.ty yI), [.cells 199 0 (.cons (.ty (.slice (.int .u8))) (.ty yI))]⟩
noncomputable def C {α : Type} (K : Nat) : CallsBy α := callsE (M := M) []
noncomputable def f (K : Nat) : Option (Unit) := some ()
noncomputable def F (K : Nat) : sig.In → Option (Unit) := fun x => f K
noncomputable def cv : sig.In → Unit → sig.Ou := fun x r => (x.2.1.2, ((x.2.1.1, x.2.1.2), ()))
theorem rets (K : Nat) : ∀ x y, withCv (F K) cv x = some y → Rets M 141 sig x y := runF_retsS (C := (C K)) (LP := noLoops) (RF := noRefit) (CP := noCuts) callsE_ok mxd noRefit_ok noCuts_ok (noL (by kernel_rfl)) (lb rfl) Tryz.func141 (by kernel_rfl) fun x => by
  rw [withCv_def]
  unfold F f
  try simp only [el]
  kernel_rfl
noncomputable def e (K : Nat) : En M := ⟨141, sig, _, F K, cv, by rfl, Tryz.f141, Tryz.func141, by kernel_rfl, rfl, rets K⟩
end wire_Reader_At
namespace wire_Reader_wrong
noncomputable def sig : Sig := ⟨(.cons (.ptr 0 0) (.ty yI)), [.cells 199 0 (.cons (.ty (.slice (.int .u8))) (.ty yI))], (.ty .err), [.cells 199 0 (.cons (.ty (.slice (.int .u8))) (.ty yI))]⟩
noncomputable def C {α : Type} (K : Nat) : CallsBy α := callsE (M := M) [wire_Reader_At.e K, fault_At.e K]
noncomputable def f (K : Nat) (a0 : Int) (a2 : Int) : Option (Err) := (wire_Reader_At.f K).bind fun t => fault_At.f K (Err.no a0) [a2]
noncomputable def F (K : Nat) : sig.In → Option (Err) := fun x => f K x.1.2 x.2.1.2
noncomputable def cv : sig.In → Err → sig.Ou := fun x r => (r, ((x.2.1.1, x.2.1.2), ()))
theorem rets (K : Nat) : ∀ x y, withCv (F K) cv x = some y → Rets M 162 sig x y := runF_retsS (C := (C K)) (LP := noLoops) (RF := noRefit) (CP := noCuts) callsE_ok mxd noRefit_ok noCuts_ok (noL (by kernel_rfl)) (lb rfl) Tryz.func162 (by kernel_rfl) fun x => by
  rw [withCv_def]
  unfold F f
  try simp only [el]
  kernel_rfl
noncomputable def e (K : Nat) : En M := ⟨162, sig, _, F K, cv, by rfl, Tryz.f162, Tryz.func162, by kernel_rfl, rfl, rets K⟩
end wire_Reader_wrong
namespace wire_Reader_Left
noncomputable def sig : Sig := ⟨(.ptr 0 0), [.cells 199 0 (.cons (.ty (.slice (.int .u8))) (.ty yI))], (.ty yI), [.cells 199 0 (.cons (.ty (.slice (.int .u8))) (.ty yI))]⟩
noncomputable def C {α : Type} (K : Nat) : CallsBy α := callsE (M := M) []
noncomputable def f (K : Nat) (a0 : List Int) (a1 : Int) : Option (Int) := some (IntKind.i64.wrap ((↑a0.length : Int) - a1))
noncomputable def F (K : Nat) : sig.In → Option (Int) := fun x => f K x.2.1.1 x.2.1.2
noncomputable def cv : sig.In → Int → sig.Ou := fun x r => (r, ((x.2.1.1, x.2.1.2), ()))
theorem rets (K : Nat) : ∀ x y, withCv (F K) cv x = some y → Rets M 163 sig x y := runF_retsS (C := (C K)) (LP := noLoops) (RF := noRefit) (CP := noCuts) callsE_ok mxd noRefit_ok noCuts_ok (noL (by kernel_rfl)) (lb rfl) Tryz.func163 (by kernel_rfl) fun x => by
  rw [withCv_def]
  unfold F f
  try simp only [el]
  kernel_rfl
noncomputable def e (K : Nat) : En M := ⟨163, sig, _, F K, cv, by rfl, Tryz.f163, Tryz.func163, by kernel_rfl, rfl, rets K⟩
end wire_Reader_Left
namespace wire_Reader_Raw
noncomputable def sig : Sig := ⟨(.cons (.ptr 0 0) (.ty yI)), [.cells 199 0 (.cons (.ty (.slice (.int .u8))) (.ty yI))], (.cons (.ty (.slice (.int .u8))) (.ty .err)), [.cells 199 0 (.cons (.ty (.slice (.int .u8))) (.ty yI))]⟩
noncomputable def C {α : Type} (K : Nat) : CallsBy α := callsE (M := M) [wire_Reader_wrong.e K, wire_Reader_Left.e K, slices_Clone_byte_byte.e K]
noncomputable def CP {α : Type} (K : Nat) : CutBy α := (cpPut 1 (rpCut M bindC [.bool] [6] (C K) (eqBy M.P)) noCuts)
theorem CP_ok {α : Type} (K : Nat) : CutsOk (α := α) M 1 (CP K) := (cpPut_ok (rpCut_ok callsE_ok (eqBy_ok _) mxd) noCuts_ok)
noncomputable def f (K : Nat) (a0 : Int) (a1 : List Int) (a2 : Int) : Option (List Int × Err × Int) := bindC (some (decide (a0 < (0 : Int)))) fun t => bif t then (wire_Reader_wrong.f K (1 : Int) a2).bind fun t => some ([], t, a2) else (wire_Reader_Left.f K a1 a2).bind fun t => bif decide (a0 > t) then (wire_Reader_wrong.f K (2 : Int) a2).bind fun t => some ([], t, a2) else bif decide ((0 : Int) ≤ IntKind.i64.wrap (IntKind.i64.wrap (a2 + a0) - a0)) && decide (IntKind.i64.wrap (IntKind.i64.wrap (a2 + a0) - a0) ≤ IntKind.i64.wrap (a2 + a0)) && decide (IntKind.i64.wrap (a2 + a0) ≤ (↑a1.length : Int)) && true then (slices_Clone_byte_byte.f K (List.drop (IntKind.i64.wrap (IntKind.i64.wrap (a2 + a0) - a0)).toNat (List.take (IntKind.i64.wrap (a2 + a0)).toNat a1))).bind fun t => some (t, Err.nil, IntKind.i64.wrap (a2 + a0)) else none
noncomputable def F (K : Nat) : sig.In → Option (List Int × Err × Int) := fun x => f K x.1.2 x.2.1.1 x.2.1.2
noncomputable def cv : sig.In → (List Int × Err × Int) → sig.Ou := fun x r => ((r.1, r.2.1), ((x.2.1.1, r.2.2), ()))
theorem rets (K : Nat) : ∀ x y, withCv (F K) cv x = some y → Rets M 142 sig x y := runF_retsS (C := (C K)) (LP := noLoops) (RF := noRefit) (CP := (CP K)) callsE_ok mxd noRefit_ok (CP_ok K) (noL (by kernel_rfl)) (lb rfl) Tryz.func142 (by kernel_rfl) fun x => by
  rw [withCv_def]
  unfold F f
  try simp only [el]
  kernel_rfl
noncomputable def e (K : Nat) : En M := ⟨142, sig, _, F K, cv, by rfl, Tryz.f142, Tryz.func142, by kernel_rfl, rfl, rets K⟩
end wire_Reader_Raw
namespace wire_Reader_look
noncomputable def sig : Sig := ⟨(.cons (.ptr 0 0) (.ty (.int .u64))), [.cells 199 0 (.cons (.ty (.slice (.int .u8))) (.ty yI))], (.cons (.ty (.int .u64)) (.cons (.ty yI) (.ty yI))), [.cells 199 0 (.cons (.ty (.slice (.int .u8))) (.ty yI))]⟩
noncomputable def C {α : Type} (K : Nat) : CallsBy α := callsE (M := M) []
noncomputable def CP {α : Type} (K : Nat) : CutBy α := (cpPut 8 (rpCut M bindC [.bool] [42] (C K) (eqBy M.P)) (cpPut 12 (rpCut M bindC [.bool] [54] (C K) (eqBy M.P)) noCuts))
theorem CP_ok {α : Type} (K : Nat) : CutsOk (α := α) M 1 (CP K) := (cpPut_ok (rpCut_ok callsE_ok (eqBy_ok _) mxd) (cpPut_ok (rpCut_ok callsE_ok (eqBy_ok _) mxd) noCuts_ok))
noncomputable def l0.h : SSh := ⟨[0, 1, 7, 10], (.cons (.ptr 0 0) (.cons (.ty (.int .u64)) (.cons (.ty (.int .u64)) (.ty yI)))), [.cells 199 0 (.cons (.ty (.slice (.int .u8))) (.ty yI))]⟩
noncomputable def l0.x : SSh := ⟨[], .unit, [.cells 199 0 (.cons (.ty (.slice (.int .u8))) (.ty yI))]⟩
noncomputable def l0.r : SSh := ⟨[4, 5, 6], (.cons (.ty (.int .u64)) (.cons (.ty yI) (.ty yI))), [.cells 199 0 (.cons (.ty (.slice (.int .u8))) (.ty yI))]⟩
noncomputable def l0.cx : l0.h.I → Unit → l0.x.I := fun x r => ((), ((x.2.1.1, x.2.1.2), ()))
noncomputable def l0.cr : l0.h.I → (Int × Int × Int) → l0.r.I := fun x r => ((r.1, (r.2.1, r.2.2)), ((x.2.1.1, x.2.1.2), ()))
noncomputable def l0.f (K : Nat) : Nat → Int → Int → Int → List Int → Int → Option ((Unit) ⊕ (Int × Int × Int))
  | 0, _, _, _, _, _ => none
  | k + 1, a0, a1, a2, a3, a4 => bif decide (a2 < (10 : Int)) then bif IntKind.i64.wrap (a4 + a2) == (↑a3.length : Int) then some (Sum.inr ((0 : Int), (0 : Int), (2 : Int))) else bif decide ((0 : Int) ≤ IntKind.i64.wrap (a4 + a2)) && true then a3[(IntKind.i64.wrap (a4 + a2)).toNat]?.bind fun t => bindC (bif a2 == (9 : Int) then some (decide (t > (1 : Int))) else some false) fun t_1 => bif t_1 then some (Sum.inr ((0 : Int), (0 : Int), (3 : Int))) else bif decide (IntKind.i64.wrap ((7 : Int) * a2) < (0 : Int)) then none else bif IntKind.u8.wrap (↑(BitVec.ofInt (8 : Nat) t &&& BitVec.ofInt (8 : Nat) (128 : Int)).toNat : Int) != (0 : Int) then l0.f K k a0 (IntKind.u64.wrap (↑(BitVec.ofInt (64 : Nat) a1 ||| BitVec.ofInt (64 : Nat) (IntKind.u64.wrap (IntKind.u64.wrap (IntKind.u8.wrap (↑(BitVec.ofInt (8 : Nat) t &&& BitVec.ofInt (8 : Nat) (127 : Int)).toNat : Int)) * (2 : Int) ^ min (IntKind.i64.wrap ((7 : Int) * a2)).toNat (64 : Nat)))).toNat : Int)) (IntKind.i64.wrap (a2 + (1 : Int))) a3 a4 else bindC (bif t == (0 : Int) then some (decide (a2 > (0 : Int))) else some false) fun t_2 => bif t_2 then some (Sum.inr ((0 : Int), (0 : Int), (3 : Int))) else bif decide (IntKind.u64.wrap (↑(BitVec.ofInt (64 : Nat) a1 ||| BitVec.ofInt (64 : Nat) (IntKind.u64.wrap (IntKind.u64.wrap (IntKind.u8.wrap (↑(BitVec.ofInt (8 : Nat) t &&& BitVec.ofInt (8 : Nat) (127 : Int)).toNat : Int)) * (2 : Int) ^ min (IntKind.i64.wrap ((7 : Int) * a2)).toNat (64 : Nat)))).toNat : Int) > a0) then some (Sum.inr ((0 : Int), (0 : Int), (4 : Int))) else some (Sum.inr (IntKind.u64.wrap (↑(BitVec.ofInt (64 : Nat) a1 ||| BitVec.ofInt (64 : Nat) (IntKind.u64.wrap (IntKind.u64.wrap (IntKind.u8.wrap (↑(BitVec.ofInt (8 : Nat) t &&& BitVec.ofInt (8 : Nat) (127 : Int)).toNat : Int)) * (2 : Int) ^ min (IntKind.i64.wrap ((7 : Int) * a2)).toNat (64 : Nat)))).toNat : Int), IntKind.i64.wrap (a2 + (1 : Int)), (0 : Int))) else none else some (Sum.inl ())
noncomputable def l0.F (K : Nat) (k : Nat) : l0.h.I → Option ((Unit) ⊕ (Int × Int × Int)) := fun x => l0.f K k x.1.2.1 x.1.2.2.1 x.1.2.2.2 x.2.1.1 x.2.1.2
noncomputable def l0.lp {α : Type} (K : Nat) : St → Kn α → Option α := lpXRD 1 69 0 l0.h l0.x l0.r (l0.F K K) l0.cx l0.cr
theorem l0.ok {α : Type} (K : Nat) : LoopOk (α := α) M 1 (nthLoop Tryz.f192 0) (l0.lp K) := lpXRD_okS (C := (C K)) (LP := noLoops) (RF := noRefit) (CP := (CP K)) (L := 20) callsE_ok mxd noRefit_ok (CP_ok K) (noL (by kernel_rfl)) (lb rfl) (lb rfl) (lb rfl) (fun x => rfl) fun k x => by
  rw [withCv_def]
  unfold l0.F
  rw [l0.f]
  try simp only [el]
  kernel_rfl
noncomputable def f (K : Nat) (a0 : Int) (a1 : List Int) (a2 : Int) : Option (Int × Int × Int) := (l0.f K K a0 (0 : Int) (0 : Int) a1 a2).bind fun t => Sum.elim (fun t => some ((0 : Int), (0 : Int), (3 : Int))) (fun t => some (t.1, t.2.1, t.2.2)) t
noncomputable def F (K : Nat) : sig.In → Option (Int × Int × Int) := fun x => f K x.1.2 x.2.1.1 x.2.1.2
noncomputable def cv : sig.In → (Int × Int × Int) → sig.Ou := fun x r => ((r.1, (r.2.1, r.2.2)), ((x.2.1.1, x.2.1.2), ()))
theorem rets (K : Nat) : ∀ x y, withCv (F K) cv x = some y → Rets M 192 sig x y := runF_retsS (C := (C K)) (LP := (lpPut 3 (l0.lp K) noLoops)) (RF := noRefit) (CP := (CP K)) callsE_ok mxd noRefit_ok (CP_ok K) (show LoopsOk M 1 (lpPut 3 (l0.lp K) noLoops) (loopsOf (bodyOf Tryz.f192)) from (show loopsOf (bodyOf Tryz.f192) = [nthLoop Tryz.f192 0] by kernel_rfl) ▸ (loopsOk_put (key := 3) (by kernel_rfl) (l0.ok K) noLoops_ok (by kernel_rfl))) (lb rfl) Tryz.func192 (by kernel_rfl) fun x => by
  rw [withCv_def]
  unfold F f
  try simp only [el]
  kernel_rfl
noncomputable def e (K : Nat) : En M := ⟨192, sig, _, F K, cv, by rfl, Tryz.f192, Tryz.func192, by kernel_rfl, rfl, rets K⟩
end wire_Reader_look
namespace wire_Reader_Uint
noncomputable def sig : Sig := ⟨(.cons (.ptr 0 0) (.ty (.int .u64))), [.cells 199 0 (.cons (.ty (.slice (.int .u8))) (.ty yI))], (.cons (.ty (.int .u64)) (.ty .err)), [.cells 199 0 (.cons (.ty (.slice (.int .u8))) (.ty yI))]⟩
noncomputable def C {α : Type} (K : Nat) : CallsBy α := callsE (M := M) [wire_Reader_look.e K, wire_Reader_wrong.e K]
noncomputable def f (K : Nat) (a0 : Int) (a1 : List Int) (a2 : Int) : Option (Int × Err × Int) := (wire_Reader_look.f K a0 a1 a2).bind fun t => bif t.2.2 != (0 : Int) then (wire_Reader_wrong.f K t.2.2 a2).bind fun t => some ((0 : Int), t, a2) else some (t.1, Err.nil, IntKind.i64.wrap (a2 + t.2.1))
noncomputable def F (K : Nat) : sig.In → Option (Int × Err × Int) := fun x => f K x.1.2 x.2.1.1 x.2.1.2
noncomputable def cv : sig.In → (Int × Err × Int) → sig.Ou := fun x r => ((r.1, r.2.1), ((x.2.1.1, r.2.2), ()))
theorem rets (K : Nat) : ∀ x y, withCv (F K) cv x = some y → Rets M 164 sig x y := runF_retsS (C := (C K)) (LP := noLoops) (RF := noRefit) (CP := noCuts) callsE_ok mxd noRefit_ok noCuts_ok (noL (by kernel_rfl)) (lb rfl) Tryz.func164 (by kernel_rfl) fun x => by
  rw [withCv_def]
  unfold F f
  try simp only [el]
  kernel_rfl
noncomputable def e (K : Nat) : En M := ⟨164, sig, _, F K, cv, by rfl, Tryz.f164, Tryz.func164, by kernel_rfl, rfl, rets K⟩
end wire_Reader_Uint
namespace code_taker_upto
noncomputable def sig : Sig := ⟨(.cons (.ptr 0 0) (.ty yI)), [.cells 196 0 (.cons (.ptr 1 0) (.ty .err)), .cells 199 0 (.cons (.ty (.slice (.int .u8))) (.ty yI))], (.ty yI), [.cells 196 0 (.cons (.ptr 1 0) (.ty .err)), .cells 199 0 (.cons (.ty (.slice (.int .u8))) (.ty yI))]⟩
noncomputable def C {α : Type} (K : Nat) : CallsBy α := callsE (M := M) [wire_Reader_Uint.e K]
noncomputable def f (K : Nat) (a0 : Int) (a1 : Err) (a2 : List Int) (a3 : Int) : Option (Int × Err × Int) := bif bif true then !a1.isNil else a1.isNil then some ((0 : Int), a1, a3) else (wire_Reader_Uint.f K (IntKind.u64.wrap a0) a2 a3).bind fun t => some (IntKind.i64.wrap t.1, t.2.1, t.2.2)
noncomputable def F (K : Nat) : sig.In → Option (Int × Err × Int) := fun x => f K x.1.2 x.2.1.2 x.2.2.1.1 x.2.2.1.2
noncomputable def cv : sig.In → (Int × Err × Int) → sig.Ou := fun x r => (r.1, (((), r.2.1), ((x.2.2.1.1, r.2.2), ())))
theorem rets (K : Nat) : ∀ x y, withCv (F K) cv x = some y → Rets M 143 sig x y := runF_retsS (C := (C K)) (LP := noLoops) (RF := noRefit) (CP := noCuts) callsE_ok mxd noRefit_ok noCuts_ok (noL (by kernel_rfl)) (lb rfl) Tryz.func143 (by kernel_rfl) fun x => by
  rw [withCv_def]
  unfold F f
  try simp only [el]
  kernel_rfl
noncomputable def e (K : Nat) : En M := ⟨143, sig, _, F K, cv, by rfl, Tryz.f143, Tryz.func143, by kernel_rfl, rfl, rets K⟩
end code_taker_upto
namespace wire_Reader_Int
noncomputable def sig : Sig := ⟨(.ptr 0 0), [.cells 199 0 (.cons (.ty (.slice (.int .u8))) (.ty yI))], (.cons (.ty yI) (.ty .err)), [.cells 199 0 (.cons (.ty (.slice (.int .u8))) (.ty yI))]⟩
noncomputable def C {α : Type} (K : Nat) : CallsBy α := callsE (M := M) [wire_Reader_Uint.e K]
noncomputable def f (K : Nat) (a0 : List Int) (a1 : Int) : Option (Int × Err × Int) := (wire_Reader_Uint.f K (18446744073709551615 : Int) a0 a1).bind fun t => some (IntKind.i64.wrap (↑(BitVec.ofInt (64 : Nat) (IntKind.i64.wrap (t.1.fdiv ((2 : Int) ^ (1 : Nat)))) ^^^ BitVec.ofInt (64 : Nat) (IntKind.i64.wrap ((0 : Int) - IntKind.i64.wrap (IntKind.u64.wrap (↑(BitVec.ofInt (64 : Nat) t.1 &&& BitVec.ofInt (64 : Nat) (1 : Int)).toNat : Int))))).toNat : Int), t.2.1, t.2.2)
noncomputable def F (K : Nat) : sig.In → Option (Int × Err × Int) := fun x => f K x.2.1.1 x.2.1.2
noncomputable def cv : sig.In → (Int × Err × Int) → sig.Ou := fun x r => ((r.1, r.2.1), ((x.2.1.1, r.2.2), ()))
theorem rets (K : Nat) : ∀ x y, withCv (F K) cv x = some y → Rets M 165 sig x y := runF_retsS (C := (C K)) (LP := noLoops) (RF := noRefit) (CP := noCuts) callsE_ok mxd noRefit_ok noCuts_ok (noL (by kernel_rfl)) (lb rfl) Tryz.func165 (by kernel_rfl) fun x => by
  rw [withCv_def]
  unfold F f
  try simp only [el]
  kernel_rfl
noncomputable def e (K : Nat) : En M := ⟨165, sig, _, F K, cv, by rfl, Tryz.f165, Tryz.func165, by kernel_rfl, rfl, rets K⟩
end wire_Reader_Int
namespace code_taker_signed
noncomputable def sig : Sig := ⟨(.ptr 0 0), [.cells 196 0 (.cons (.ptr 1 0) (.ty .err)), .cells 199 0 (.cons (.ty (.slice (.int .u8))) (.ty yI))], (.ty yI), [.cells 196 0 (.cons (.ptr 1 0) (.ty .err)), .cells 199 0 (.cons (.ty (.slice (.int .u8))) (.ty yI))]⟩
noncomputable def C {α : Type} (K : Nat) : CallsBy α := callsE (M := M) [wire_Reader_Int.e K]
noncomputable def f (K : Nat) (a0 : Err) (a1 : List Int) (a2 : Int) : Option (Int × Err × Int) := bif bif true then !a0.isNil else a0.isNil then some ((0 : Int), a0, a2) else wire_Reader_Int.f K a1 a2
noncomputable def F (K : Nat) : sig.In → Option (Int × Err × Int) := fun x => f K x.2.1.2 x.2.2.1.1 x.2.2.1.2
noncomputable def cv : sig.In → (Int × Err × Int) → sig.Ou := fun x r => (r.1, (((), r.2.1), ((x.2.2.1.1, r.2.2), ())))
theorem rets (K : Nat) : ∀ x y, withCv (F K) cv x = some y → Rets M 144 sig x y := runF_retsS (C := (C K)) (LP := noLoops) (RF := noRefit) (CP := noCuts) callsE_ok mxd noRefit_ok noCuts_ok (noL (by kernel_rfl)) (lb rfl) Tryz.func144 (by kernel_rfl) fun x => by
  rw [withCv_def]
  unfold F f
  try simp only [el]
  kernel_rfl
noncomputable def e (K : Nat) : En M := ⟨144, sig, _, F K, cv, by rfl, Tryz.f144, Tryz.func144, by kernel_rfl, rfl, rets K⟩
end code_taker_signed
namespace wire_Reader_Section
noncomputable def sig : Sig := ⟨(.ptr 0 0), [.cells 199 0 (.cons (.ty (.slice (.int .u8))) (.ty yI))], (.cons (.ptr 1 0) (.ty .err)), [.cells 199 0 (.cons (.ty (.slice (.int .u8))) (.ty yI)), .cells 199 0 (.cons (.ty (.slice (.int .u8))) (.ty yI))]⟩
noncomputable def C {α : Type} (K : Nat) : CallsBy α := callsE (M := M) [wire_Reader_look.e K, wire_Reader_wrong.e K, wire_Reader_Left.e K]
noncomputable def f (K : Nat) (a0 : List Int) (a1 : Int) : Option (Err × Int × List Int × Int) := (wire_Reader_look.f K (18446744073709551615 : Int) a0 a1).bind fun t => bif t.2.2 != (0 : Int) then (wire_Reader_wrong.f K t.2.2 a1).bind fun t => none else (wire_Reader_Left.f K a0 a1).bind fun t_1 => bif decide (t.1 > IntKind.u64.wrap (IntKind.i64.wrap (t_1 - t.2.1))) then (wire_Reader_wrong.f K (2 : Int) a1).bind fun t => none else bif decide ((↑(0 : Nat) : Int) ≤ IntKind.i64.wrap (IntKind.i64.wrap (a1 + t.2.1) + IntKind.i64.wrap t.1)) && decide (IntKind.i64.wrap (IntKind.i64.wrap (a1 + t.2.1) + IntKind.i64.wrap t.1) ≤ (↑a0.length : Int)) && true then some (Err.nil, IntKind.i64.wrap (a1 + IntKind.i64.wrap (t.2.1 + IntKind.i64.wrap t.1)), List.drop (0 : Nat) (List.take (IntKind.i64.wrap (IntKind.i64.wrap (a1 + t.2.1) + IntKind.i64.wrap t.1)).toNat a0), IntKind.i64.wrap (a1 + t.2.1)) else none
noncomputable def F (K : Nat) : sig.In → Option (Err × Int × List Int × Int) := fun x => f K x.2.1.1 x.2.1.2
noncomputable def cv : sig.In → (Err × Int × List Int × Int) → sig.Ou := fun x r => (((), r.1), ((x.2.1.1, r.2.1), ((r.2.2.1, r.2.2.2), ())))
theorem rets (K : Nat) : ∀ x y, withCv (F K) cv x = some y → Rets M 167 sig x y := runF_retsS (C := (C K)) (LP := noLoops) (RF := noRefit) (CP := noCuts) callsE_ok mxd noRefit_ok noCuts_ok (noL (by kernel_rfl)) (lb rfl) Tryz.func167 (by kernel_rfl) fun x => by
  rw [withCv_def]
  unfold F f
  try simp only [el]
  kernel_rfl
noncomputable def e (K : Nat) : En M := ⟨167, sig, _, F K, cv, by rfl, Tryz.f167, Tryz.func167, by kernel_rfl, rfl, rets K⟩
end wire_Reader_Section
namespace code_taker_name
noncomputable def sig : Sig := ⟨(.ptr 0 0), [.cells 196 0 (.cons (.ptr 1 0) (.ty .err)), .cells 199 0 (.cons (.ty (.slice (.int .u8))) (.ty yI))], (.ty .str), [.cells 196 0 (.cons (.ptr 1 0) (.ty .err)), .cells 199 0 (.cons (.ty (.slice (.int .u8))) (.ty yI))]⟩
noncomputable def C {α : Type} (K : Nat) : CallsBy α := callsE (M := M) [wire_Reader_Section.e K, wire_Reader_Left.e K, wire_Reader_Raw.e K]
noncomputable def f (K : Nat) (a0 : Err) (a1 : List Int) (a2 : Int) : Option (ByteArray × Err × Int) := bif bif true then !a0.isNil else a0.isNil then some (ByteArray.mk #[], a0, a2) else (wire_Reader_Section.f K a1 a2).bind fun t => bif bif true then !t.1.isNil else t.1.isNil then some (ByteArray.mk #[], t.1, t.2.1) else (wire_Reader_Left.f K t.2.2.1 t.2.2.2).bind fun t_1 => (wire_Reader_Raw.f K t_1 t.2.2.1 t.2.2.2).bind fun t_2 => some (strOf t_2.1, a0, t.2.1)
noncomputable def F (K : Nat) : sig.In → Option (ByteArray × Err × Int) := fun x => f K x.2.1.2 x.2.2.1.1 x.2.2.1.2
noncomputable def cv : sig.In → (ByteArray × Err × Int) → sig.Ou := fun x r => (r.1, (((), r.2.1), ((x.2.2.1.1, r.2.2), ())))
theorem rets (K : Nat) : ∀ x y, withCv (F K) cv x = some y → Rets M 146 sig x y := runF_retsS (C := (C K)) (LP := noLoops) (RF := noRefit) (CP := noCuts) callsE_ok mxd noRefit_ok noCuts_ok (noL (by kernel_rfl)) (lb rfl) Tryz.func146 (by kernel_rfl) fun x => by
  rw [withCv_def]
  unfold F f
  try simp only [el]
  kernel_rfl
noncomputable def e (K : Nat) : En M := ⟨146, sig, _, F K, cv, by rfl, Tryz.f146, Tryz.func146, by kernel_rfl, rfl, rets K⟩
end code_taker_name
namespace wire_Reader_Byte
noncomputable def sig : Sig := ⟨(.ptr 0 0), [.cells 199 0 (.cons (.ty (.slice (.int .u8))) (.ty yI))], (.cons (.ty (.int .u8)) (.ty .err)), [.cells 199 0 (.cons (.ty (.slice (.int .u8))) (.ty yI))]⟩
noncomputable def C {α : Type} (K : Nat) : CallsBy α := callsE (M := M) [wire_Reader_wrong.e K]
noncomputable def f (K : Nat) (a0 : List Int) (a1 : Int) : Option (Int × Err × Int) := bif a1 == (↑a0.length : Int) then (wire_Reader_wrong.f K (2 : Int) a1).bind fun t => some ((0 : Int), t, a1) else bif decide ((0 : Int) ≤ IntKind.i64.wrap (IntKind.i64.wrap (a1 + (1 : Int)) - (1 : Int))) && true then a0[(IntKind.i64.wrap (IntKind.i64.wrap (a1 + (1 : Int)) - (1 : Int))).toNat]?.bind fun t => some (t, Err.nil, IntKind.i64.wrap (a1 + (1 : Int))) else none
noncomputable def F (K : Nat) : sig.In → Option (Int × Err × Int) := fun x => f K x.2.1.1 x.2.1.2
noncomputable def cv : sig.In → (Int × Err × Int) → sig.Ou := fun x r => ((r.1, r.2.1), ((x.2.1.1, r.2.2), ()))
theorem rets (K : Nat) : ∀ x y, withCv (F K) cv x = some y → Rets M 223 sig x y := runF_retsS (C := (C K)) (LP := noLoops) (RF := noRefit) (CP := noCuts) callsE_ok mxd noRefit_ok noCuts_ok (noL (by kernel_rfl)) (lb rfl) Tryz.func223 (by kernel_rfl) fun x => by
  rw [withCv_def]
  unfold F f
  try simp only [el]
  kernel_rfl
noncomputable def e (K : Nat) : En M := ⟨223, sig, _, F K, cv, by rfl, Tryz.f223, Tryz.func223, by kernel_rfl, rfl, rets K⟩
end wire_Reader_Byte
namespace code_taker_kind
noncomputable def sig : Sig := ⟨(.cons (.ptr 0 0) (.ty yI)), [.cells 196 0 (.cons (.ptr 1 0) (.ty .err)), .cells 199 0 (.cons (.ty (.slice (.int .u8))) (.ty yI))], (.ty yI), [.cells 196 0 (.cons (.ptr 1 0) (.ty .err)), .cells 199 0 (.cons (.ty (.slice (.int .u8))) (.ty yI))]⟩
noncomputable def C {α : Type} (K : Nat) : CallsBy α := callsE (M := M) [wire_Reader_At.e K, wire_Reader_Byte.e K, fault_At.e K]
noncomputable def CP {α : Type} (K : Nat) : CutBy α := (cpPut 5 (rpCut M bindC [.bool] [37] (C K) (eqBy M.P)) noCuts)
theorem CP_ok {α : Type} (K : Nat) : CutsOk (α := α) M 2 (CP K) := (cpPut_ok (rpCut_ok callsE_ok (eqBy_ok _) mxd) noCuts_ok)
noncomputable def f (K : Nat) (a0 : Int) (a1 : Err) (a2 : List Int) (a3 : Int) : Option (Int × Err × Int) := bif bif true then !a1.isNil else a1.isNil then some ((0 : Int), a1, a3) else (wire_Reader_At.f K).bind fun t => (wire_Reader_Byte.f K a2 a3).bind fun t => bindC (bif bif false then !t.2.1.isNil else t.2.1.isNil then bif decide (t.1 < (1 : Int)) then some true else some (decide (IntKind.i64.wrap t.1 > a0)) else some false) fun t_1 => bif t_1 then (fault_At.f K (Err.no (5 : Int)) [a3]).bind fun t_2 => some (IntKind.i64.wrap t.1, t_2, t.2.2) else some (IntKind.i64.wrap t.1, t.2.1, t.2.2)
noncomputable def F (K : Nat) : sig.In → Option (Int × Err × Int) := fun x => f K x.1.2 x.2.1.2 x.2.2.1.1 x.2.2.1.2
noncomputable def cv : sig.In → (Int × Err × Int) → sig.Ou := fun x r => (r.1, (((), r.2.1), ((x.2.2.1.1, r.2.2), ())))
theorem rets (K : Nat) : ∀ x y, withCv (F K) cv x = some y → Rets M 215 sig x y := runF_retsS (C := (C K)) (LP := noLoops) (RF := noRefit) (CP := (CP K)) callsE_ok mxd noRefit_ok (CP_ok K) (noL (by kernel_rfl)) (lb rfl) Tryz.func215 (by kernel_rfl) fun x => by
  rw [withCv_def]
  unfold F f
  try simp only [el]
  kernel_rfl
noncomputable def e (K : Nat) : En M := ⟨215, sig, _, F K, cv, by rfl, Tryz.f215, Tryz.func215, by kernel_rfl, rfl, rets K⟩
end code_taker_kind
namespace code_taker_insn
noncomputable def sig : Sig := ⟨(.ptr 0 0), [.cells 196 0 (.cons (.ptr 1 0) (.ty .err)), .cells 199 0 (.cons (.ty (.slice (.int .u8))) (.ty yI))], (.agg (.cons (.ty yI) (.cons (.ty yI) (.cons (.ty yI) (.cons (.ty yI) (.cons (.ty yI) (.ty (.slice yI)))))))), [.cells 196 0 (.cons (.ptr 1 0) (.ty .err)), .cells 199 0 (.cons (.ty (.slice (.int .u8))) (.ty yI))]⟩
noncomputable def C {α : Type} (K : Nat) : CallsBy α := callsE (M := M) [code_taker_kind.e K, code_of.e K, code_taker_upto.e K, code_taker_signed.e K]
noncomputable def l0.h : SSh := ⟨[0, 2, 3, 42, 43], (.cons (.ptr 0 0) (.cons (.ptr 2 0) (.cons (.ptr 3 0) (.cons (.ty yI) (.ty yI))))), [.cells 196 0 (.cons (.ptr 1 0) (.ty .err)), .cells 199 0 (.cons (.ty (.slice (.int .u8))) (.ty yI)), .cells 144 0 (.cons (.ty yI) (.cons (.ty yI) (.cons (.ty yI) (.cons (.ty yI) (.cons (.ty yI) (.own 4)))))), .cells 144 0 (.cons (.ty yI) (.cons (.ty yI) (.cons (.ty yI) (.cons (.ty yI) (.cons (.ty yI) (.own 5)))))), .list 3 yI [], .list 3 yI []]⟩
noncomputable def l0.x : SSh := ⟨[2, 3], (.cons (.ptr 2 0) (.ptr 3 0)), [.cells 196 0 (.cons (.ptr 1 0) (.ty .err)), .cells 199 0 (.cons (.ty (.slice (.int .u8))) (.ty yI)), .cells 144 0 (.cons (.ty yI) (.cons (.ty yI) (.cons (.ty yI) (.cons (.ty yI) (.cons (.ty yI) (.own 4)))))), .cells 144 0 (.cons (.ty yI) (.cons (.ty yI) (.cons (.ty yI) (.cons (.ty yI) (.cons (.ty yI) (.own 5)))))), .list 3 yI [], .list 3 yI []]⟩
noncomputable def l0.cx : l0.h.I → (Err × Int × List Int) → l0.x.I := fun x r => (((), ()), (((), r.1), ((x.2.2.1.1, r.2.1), ((x.2.2.2.1.1, (x.2.2.2.1.2.1, (x.2.2.2.1.2.2.1, (x.2.2.2.1.2.2.2.1, (x.2.2.2.1.2.2.2.2.1, ()))))), ((x.2.2.2.2.1.1, (x.2.2.2.2.1.2.1, (x.2.2.2.2.1.2.2.1, (x.2.2.2.2.1.2.2.2.1, (x.2.2.2.2.1.2.2.2.2.1, ()))))), (x.2.2.2.2.2.1, (r.2.2, ())))))))
noncomputable def l0.f (K : Nat) : Nat → Int → Int → Err → List Int → Int → List Int → Option (Err × Int × List Int)
  | 0, _, _, _, _, _, _ => none
  | k + 1, a0, a1, a2, a3, a4, a16 => bif decide (a1 < a0) then (code_taker_upto.f K (7 : Int) a2 a3 a4).bind fun t => bif (a16.length + [t.1].length).ble (100000 : Nat) then l0.f K k a0 (IntKind.i64.wrap (a1 + (1 : Int))) t.2.1 a3 t.2.2 (a16 ++ [t.1]) else none else some (a2, a4, a16)
noncomputable def l0.F (K : Nat) (k : Nat) : l0.h.I → Option (Err × Int × List Int) := fun x => l0.f K k x.1.2.2.2.1 x.1.2.2.2.2 x.2.1.2 x.2.2.1.1 x.2.2.1.2 x.2.2.2.2.2.2.1
noncomputable def l0.lp {α : Type} (K : Nat) : St → Kn α → Option α := lpX 2 54 1 l0.h l0.x (l0.F K K) l0.cx
theorem l0.ok {α : Type} (K : Nat) : LoopOk (α := α) M 2 (nthLoop Tryz.f193 0) (l0.lp K) := lpX_okS (C := (C K)) (LP := noLoops) (RF := noRefit) (CP := noCuts) (L := 20) callsE_ok mxd noRefit_ok noCuts_ok (noL (by kernel_rfl)) (lb rfl) (lb rfl) (fun x => rfl) fun k x => by
  rw [withCv_def]
  unfold l0.F
  rw [l0.f]
  try simp only [el]
  kernel_rfl
noncomputable def f (K : Nat) (a0 : Err) (a1 : List Int) (a2 : Int) : Option (Int × Int × Int × Int × Int × List Int × Err × Int) := (code_taker_kind.f K (17 : Int) a0 a1 a2).bind fun t => (code_of.f K t.1).bind fun t_1 => bif t_1.1 then (code_taker_upto.f K (7 : Int) t.2.1 a1 t.2.2).bind fun t_2 => bif t_1.2.1 then (code_taker_upto.f K (7 : Int) t_2.2.1 a1 t_2.2.2).bind fun t_3 => bif t_1.2.2.1 then (code_taker_upto.f K t_1.2.2.2.1 t_3.2.1 a1 t_3.2.2).bind fun t_4 => bif t.1 == (1 : Int) then (code_taker_signed.f K t_4.2.1 a1 t_4.2.2).bind fun t_5 => some (t.1, t_2.1, t_3.1, t_4.1, t_5.1, [], t_5.2.1, t_5.2.2) else bif t.1 == (17 : Int) then (code_taker_upto.f K (4 : Int) t_4.2.1 a1 t_4.2.2).bind fun t_5 => (l0.f K K t_5.1 (0 : Int) t_5.2.1 a1 t_5.2.2 []).bind fun t_6 => some (t.1, t_2.1, t_3.1, t_4.1, (0 : Int), t_6.2.2, t_6.1, t_6.2.1) else some (t.1, t_2.1, t_3.1, t_4.1, (0 : Int), [], t_4.2.1, t_4.2.2) else bif t.1 == (1 : Int) then (code_taker_signed.f K t_3.2.1 a1 t_3.2.2).bind fun t_4 => some (t.1, t_2.1, t_3.1, (0 : Int), t_4.1, [], t_4.2.1, t_4.2.2) else bif t.1 == (17 : Int) then (code_taker_upto.f K (4 : Int) t_3.2.1 a1 t_3.2.2).bind fun t_4 => (l0.f K K t_4.1 (0 : Int) t_4.2.1 a1 t_4.2.2 []).bind fun t_5 => some (t.1, t_2.1, t_3.1, (0 : Int), (0 : Int), t_5.2.2, t_5.1, t_5.2.1) else some (t.1, t_2.1, t_3.1, (0 : Int), (0 : Int), [], t_3.2.1, t_3.2.2) else bif t_1.2.2.1 then (code_taker_upto.f K t_1.2.2.2.1 t_2.2.1 a1 t_2.2.2).bind fun t_3 => bif t.1 == (1 : Int) then (code_taker_signed.f K t_3.2.1 a1 t_3.2.2).bind fun t_4 => some (t.1, t_2.1, (0 : Int), t_3.1, t_4.1, [], t_4.2.1, t_4.2.2) else bif t.1 == (17 : Int) then (code_taker_upto.f K (4 : Int) t_3.2.1 a1 t_3.2.2).bind fun t_4 => (l0.f K K t_4.1 (0 : Int) t_4.2.1 a1 t_4.2.2 []).bind fun t_5 => some (t.1, t_2.1, (0 : Int), t_3.1, (0 : Int), t_5.2.2, t_5.1, t_5.2.1) else some (t.1, t_2.1, (0 : Int), t_3.1, (0 : Int), [], t_3.2.1, t_3.2.2) else bif t.1 == (1 : Int) then (code_taker_signed.f K t_2.2.1 a1 t_2.2.2).bind fun t_3 => some (t.1, t_2.1, (0 : Int), (0 : Int), t_3.1, [], t_3.2.1, t_3.2.2) else bif t.1 == (17 : Int) then (code_taker_upto.f K (4 : Int) t_2.2.1 a1 t_2.2.2).bind fun t_3 => (l0.f K K t_3.1 (0 : Int) t_3.2.1 a1 t_3.2.2 []).bind fun t_4 => some (t.1, t_2.1, (0 : Int), (0 : Int), (0 : Int), t_4.2.2, t_4.1, t_4.2.1) else some (t.1, t_2.1, (0 : Int), (0 : Int), (0 : Int), [], t_2.2.1, t_2.2.2) else bif t_1.2.1 then (code_taker_upto.f K (7 : Int) t.2.1 a1 t.2.2).bind fun t_2 => bif t_1.2.2.1 then (code_taker_upto.f K t_1.2.2.2.1 t_2.2.1 a1 t_2.2.2).bind fun t_3 => bif t.1 == (1 : Int) then (code_taker_signed.f K t_3.2.1 a1 t_3.2.2).bind fun t_4 => some (t.1, (0 : Int), t_2.1, t_3.1, t_4.1, [], t_4.2.1, t_4.2.2) else bif t.1 == (17 : Int) then (code_taker_upto.f K (4 : Int) t_3.2.1 a1 t_3.2.2).bind fun t_4 => (l0.f K K t_4.1 (0 : Int) t_4.2.1 a1 t_4.2.2 []).bind fun t_5 => some (t.1, (0 : Int), t_2.1, t_3.1, (0 : Int), t_5.2.2, t_5.1, t_5.2.1) else some (t.1, (0 : Int), t_2.1, t_3.1, (0 : Int), [], t_3.2.1, t_3.2.2) else bif t.1 == (1 : Int) then (code_taker_signed.f K t_2.2.1 a1 t_2.2.2).bind fun t_3 => some (t.1, (0 : Int), t_2.1, (0 : Int), t_3.1, [], t_3.2.1, t_3.2.2) else bif t.1 == (17 : Int) then (code_taker_upto.f K (4 : Int) t_2.2.1 a1 t_2.2.2).bind fun t_3 => (l0.f K K t_3.1 (0 : Int) t_3.2.1 a1 t_3.2.2 []).bind fun t_4 => some (t.1, (0 : Int), t_2.1, (0 : Int), (0 : Int), t_4.2.2, t_4.1, t_4.2.1) else some (t.1, (0 : Int), t_2.1, (0 : Int), (0 : Int), [], t_2.2.1, t_2.2.2) else bif t_1.2.2.1 then (code_taker_upto.f K t_1.2.2.2.1 t.2.1 a1 t.2.2).bind fun t_2 => bif t.1 == (1 : Int) then (code_taker_signed.f K t_2.2.1 a1 t_2.2.2).bind fun t_3 => some (t.1, (0 : Int), (0 : Int), t_2.1, t_3.1, [], t_3.2.1, t_3.2.2) else bif t.1 == (17 : Int) then (code_taker_upto.f K (4 : Int) t_2.2.1 a1 t_2.2.2).bind fun t_3 => (l0.f K K t_3.1 (0 : Int) t_3.2.1 a1 t_3.2.2 []).bind fun t_4 => some (t.1, (0 : Int), (0 : Int), t_2.1, (0 : Int), t_4.2.2, t_4.1, t_4.2.1) else some (t.1, (0 : Int), (0 : Int), t_2.1, (0 : Int), [], t_2.2.1, t_2.2.2) else bif t.1 == (1 : Int) then (code_taker_signed.f K t.2.1 a1 t.2.2).bind fun t_2 => some (t.1, (0 : Int), (0 : Int), (0 : Int), t_2.1, [], t_2.2.1, t_2.2.2) else bif t.1 == (17 : Int) then (code_taker_upto.f K (4 : Int) t.2.1 a1 t.2.2).bind fun t_2 => (l0.f K K t_2.1 (0 : Int) t_2.2.1 a1 t_2.2.2 []).bind fun t_3 => some (t.1, (0 : Int), (0 : Int), (0 : Int), (0 : Int), t_3.2.2, t_3.1, t_3.2.1) else some (t.1, (0 : Int), (0 : Int), (0 : Int), (0 : Int), [], t.2.1, t.2.2)
noncomputable def F (K : Nat) : sig.In → Option (Int × Int × Int × Int × Int × List Int × Err × Int) := fun x => f K x.2.1.2 x.2.2.1.1 x.2.2.1.2
noncomputable def cv : sig.In → (Int × Int × Int × Int × Int × List Int × Err × Int) → sig.Ou := fun x r => ((r.1, (r.2.1, (r.2.2.1, (r.2.2.2.1, (r.2.2.2.2.1, r.2.2.2.2.2.1))))), (((), r.2.2.2.2.2.2.1), ((x.2.2.1.1, r.2.2.2.2.2.2.2), ())))
theorem rets (K : Nat) : ∀ x y, withCv (F K) cv x = some y → Rets M 193 sig x y := runF_retsS (C := (C K)) (LP := (lpPut 14 (l0.lp K) noLoops)) (RF := noRefit) (CP := noCuts) callsE_ok mxd noRefit_ok noCuts_ok (show LoopsOk M 2 (lpPut 14 (l0.lp K) noLoops) (loopsOf (bodyOf Tryz.f193)) from (show loopsOf (bodyOf Tryz.f193) = [nthLoop Tryz.f193 0] by kernel_rfl) ▸ (loopsOk_put (key := 14) (by kernel_rfl) (l0.ok K) noLoops_ok (by kernel_rfl))) (lb rfl) Tryz.func193 (by kernel_rfl) fun x => by
  rw [withCv_def]
  unfold F f
  try simp only [el]
  kernel_rfl
noncomputable def e (K : Nat) : En M := ⟨193, sig, _, F K, cv, by rfl, Tryz.f193, Tryz.func193, by kernel_rfl, rfl, rets K⟩
end code_taker_insn
namespace code_taker_end
noncomputable def sig : Sig := ⟨(.ptr 0 0), [.cells 196 0 (.cons (.ptr 1 0) (.ty .err)), .cells 199 0 (.cons (.ty (.slice (.int .u8))) (.ty yI))], (.agg (.cons (.ty yI) (.cons (.ty yI) (.cons (.ty yI) (.ty yI))))), [.cells 196 0 (.cons (.ptr 1 0) (.ty .err)), .cells 199 0 (.cons (.ty (.slice (.int .u8))) (.ty yI))]⟩
noncomputable def C {α : Type} (K : Nat) : CallsBy α := callsE (M := M) [code_taker_kind.e K, code_taker_upto.e K]
noncomputable def f (K : Nat) (a0 : Err) (a1 : List Int) (a2 : Int) : Option (Int × Int × Int × Int × Err × Int) := (code_taker_kind.f K (3 : Int) a0 a1 a2).bind fun t => bif t.1 != (1 : Int) then (code_taker_upto.f K (7 : Int) t.2.1 a1 t.2.2).bind fun t_1 => bif t.1 != (3 : Int) then (code_taker_upto.f K (11 : Int) t_1.2.1 a1 t_1.2.2).bind fun t_2 => bif t.1 == (2 : Int) then (code_taker_upto.f K (11 : Int) t_2.2.1 a1 t_2.2.2).bind fun t_3 => some (t.1, t_1.1, t_2.1, t_3.1, t_3.2.1, t_3.2.2) else some (t.1, t_1.1, t_2.1, (0 : Int), t_2.2.1, t_2.2.2) else bif t.1 == (2 : Int) then (code_taker_upto.f K (11 : Int) t_1.2.1 a1 t_1.2.2).bind fun t_2 => some (t.1, t_1.1, (0 : Int), t_2.1, t_2.2.1, t_2.2.2) else some (t.1, t_1.1, (0 : Int), (0 : Int), t_1.2.1, t_1.2.2) else bif t.1 != (3 : Int) then (code_taker_upto.f K (11 : Int) t.2.1 a1 t.2.2).bind fun t_1 => bif t.1 == (2 : Int) then (code_taker_upto.f K (11 : Int) t_1.2.1 a1 t_1.2.2).bind fun t_2 => some (t.1, (0 : Int), t_1.1, t_2.1, t_2.2.1, t_2.2.2) else some (t.1, (0 : Int), t_1.1, (0 : Int), t_1.2.1, t_1.2.2) else bif t.1 == (2 : Int) then (code_taker_upto.f K (11 : Int) t.2.1 a1 t.2.2).bind fun t_1 => some (t.1, (0 : Int), (0 : Int), t_1.1, t_1.2.1, t_1.2.2) else some (t.1, (0 : Int), (0 : Int), (0 : Int), t.2.1, t.2.2)
noncomputable def F (K : Nat) : sig.In → Option (Int × Int × Int × Int × Err × Int) := fun x => f K x.2.1.2 x.2.2.1.1 x.2.2.1.2
noncomputable def cv : sig.In → (Int × Int × Int × Int × Err × Int) → sig.Ou := fun x r => ((r.1, (r.2.1, (r.2.2.1, r.2.2.2.1))), (((), r.2.2.2.2.1), ((x.2.2.1.1, r.2.2.2.2.2), ())))
theorem rets (K : Nat) : ∀ x y, withCv (F K) cv x = some y → Rets M 194 sig x y := runF_retsS (C := (C K)) (LP := noLoops) (RF := noRefit) (CP := noCuts) callsE_ok mxd noRefit_ok noCuts_ok (noL (by kernel_rfl)) (lb rfl) Tryz.func194 (by kernel_rfl) fun x => by
  rw [withCv_def]
  unfold F f
  try simp only [el]
  kernel_rfl
noncomputable def e (K : Nat) : En M := ⟨194, sig, _, F K, cv, by rfl, Tryz.f194, Tryz.func194, by kernel_rfl, rfl, rets K⟩
end code_taker_end
namespace code_taker_block
noncomputable def sig : Sig := ⟨(.ptr 0 0), [.cells 196 0 (.cons (.ptr 1 0) (.ty .err)), .cells 199 0 (.cons (.ty (.slice (.int .u8))) (.ty yI))], (.agg (.cons (.ty (.slice yInsn)) (.cons (.ty yI) (.cons (.ty yI) (.cons (.ty yI) (.ty yI)))))), [.cells 196 0 (.cons (.ptr 1 0) (.ty .err)), .cells 199 0 (.cons (.ty (.slice (.int .u8))) (.ty yI))]⟩
noncomputable def C {α : Type} (K : Nat) : CallsBy α := callsE (M := M) [code_taker_upto.e K, code_taker_insn.e K, code_taker_end.e K]
noncomputable def l0.h : SSh := ⟨[0, 2, 3, 5, 6], (.cons (.ptr 0 0) (.cons (.ptr 2 0) (.cons (.ptr 3 0) (.cons (.ty yI) (.ty yI))))), [.cells 196 0 (.cons (.ptr 1 0) (.ty .err)), .cells 199 0 (.cons (.ty (.slice (.int .u8))) (.ty yI)), .cells 91 0 (.cons (.own 4) (.cons (.ty yI) (.cons (.ty yI) (.cons (.ty yI) (.ty yI))))), .cells 91 0 (.cons (.own 5) (.cons (.ty yI) (.cons (.ty yI) (.cons (.ty yI) (.ty yI))))), .list 144 yInsn [], .list 144 yInsn []]⟩
noncomputable def l0.x : SSh := ⟨[0, 2, 3], (.cons (.ptr 0 0) (.cons (.ptr 2 0) (.ptr 3 0))), [.cells 196 0 (.cons (.ptr 1 0) (.ty .err)), .cells 199 0 (.cons (.ty (.slice (.int .u8))) (.ty yI)), .cells 91 0 (.cons (.own 4) (.cons (.ty yI) (.cons (.ty yI) (.cons (.ty yI) (.ty yI))))), .cells 91 0 (.cons (.own 5) (.cons (.ty yI) (.cons (.ty yI) (.cons (.ty yI) (.ty yI))))), .list 144 yInsn [], .list 144 yInsn []]⟩
noncomputable def l0.cx : l0.h.I → (Err × Int × List LInsn) → l0.x.I := fun x r => (((), ((), ())), (((), r.1), ((x.2.2.1.1, r.2.1), (((), (x.2.2.2.1.2.1, (x.2.2.2.1.2.2.1, (x.2.2.2.1.2.2.2.1, x.2.2.2.1.2.2.2.2)))), (((), (x.2.2.2.2.1.2.1, (x.2.2.2.2.1.2.2.1, (x.2.2.2.2.1.2.2.2.1, x.2.2.2.2.1.2.2.2.2)))), (x.2.2.2.2.2.1, (r.2.2, ())))))))
noncomputable def l0.f (K : Nat) : Nat → Int → Int → Err → List Int → Int → List LInsn → Option (Err × Int × List LInsn)
  | 0, _, _, _, _, _, _ => none
  | k + 1, a0, a1, a2, a3, a4, a14 => bif decide (a1 < a0) then (code_taker_insn.f K a2 a3 a4).bind fun t => bif (a14.length + [(t.1, t.2.1, t.2.2.1, t.2.2.2.1, t.2.2.2.2.1, t.2.2.2.2.2.1)].length).ble (100000 : Nat) then l0.f K k a0 (IntKind.i64.wrap (a1 + (1 : Int))) t.2.2.2.2.2.2.1 a3 t.2.2.2.2.2.2.2 (a14 ++ [(t.1, t.2.1, t.2.2.1, t.2.2.2.1, t.2.2.2.2.1, t.2.2.2.2.2.1)]) else none else some (a2, a4, a14)
noncomputable def l0.F (K : Nat) (k : Nat) : l0.h.I → Option (Err × Int × List LInsn) := fun x => l0.f K k x.1.2.2.2.1 x.1.2.2.2.2 x.2.1.2 x.2.2.1.1 x.2.2.1.2 x.2.2.2.2.2.2.1
noncomputable def l0.lp {α : Type} (K : Nat) : St → Kn α → Option α := lpX 2 20 0 l0.h l0.x (l0.F K K) l0.cx
theorem l0.ok {α : Type} (K : Nat) : LoopOk (α := α) M 2 (nthLoop Tryz.f166 0) (l0.lp K) := lpX_okS (C := (C K)) (LP := noLoops) (RF := noRefit) (CP := noCuts) (L := 20) callsE_ok mxd noRefit_ok noCuts_ok (noL (by kernel_rfl)) (lb rfl) (lb rfl) (fun x => rfl) fun k x => by
  rw [withCv_def]
  unfold l0.F
  rw [l0.f]
  try simp only [el]
  kernel_rfl
noncomputable def f (K : Nat) (a0 : Err) (a1 : List Int) (a2 : Int) : Option (List LInsn × Int × Int × Int × Int × Err × Int) := (code_taker_upto.f K (12 : Int) a0 a1 a2).bind fun t => (l0.f K K t.1 (0 : Int) t.2.1 a1 t.2.2 []).bind fun t => (code_taker_end.f K t.1 a1 t.2.1).bind fun t_1 => some (t.2.2, t_1.1, t_1.2.1, t_1.2.2.1, t_1.2.2.2.1, t_1.2.2.2.2.1, t_1.2.2.2.2.2)
noncomputable def F (K : Nat) : sig.In → Option (List LInsn × Int × Int × Int × Int × Err × Int) := fun x => f K x.2.1.2 x.2.2.1.1 x.2.2.1.2
noncomputable def cv : sig.In → (List LInsn × Int × Int × Int × Int × Err × Int) → sig.Ou := fun x r => ((r.1, (r.2.1, (r.2.2.1, (r.2.2.2.1, r.2.2.2.2.1)))), (((), r.2.2.2.2.2.1), ((x.2.2.1.1, r.2.2.2.2.2.2), ())))
theorem rets (K : Nat) : ∀ x y, withCv (F K) cv x = some y → Rets M 166 sig x y := runF_retsS (C := (C K)) (LP := (lpPut 3 (l0.lp K) noLoops)) (RF := noRefit) (CP := noCuts) callsE_ok mxd noRefit_ok noCuts_ok (show LoopsOk M 2 (lpPut 3 (l0.lp K) noLoops) (loopsOf (bodyOf Tryz.f166)) from (show loopsOf (bodyOf Tryz.f166) = [nthLoop Tryz.f166 0] by kernel_rfl) ▸ (loopsOk_put (key := 3) (by kernel_rfl) (l0.ok K) noLoops_ok (by kernel_rfl))) (lb rfl) Tryz.func166 (by kernel_rfl) fun x => by
  rw [withCv_def]
  unfold F f
  try simp only [el]
  kernel_rfl
noncomputable def e (K : Nat) : En M := ⟨166, sig, _, F K, cv, by rfl, Tryz.f166, Tryz.func166, by kernel_rfl, rfl, rets K⟩
end code_taker_block
namespace code_taker_function
noncomputable def sig : Sig := ⟨(.ptr 0 0), [.cells 196 0 (.cons (.ptr 1 0) (.ty .err)), .cells 199 0 (.cons (.ty (.slice (.int .u8))) (.ty yI))], (.agg (.cons (.ty .str) (.cons (.ty yI) (.cons (.ty yI) (.ty (.slice yBlock)))))), [.cells 196 0 (.cons (.ptr 1 0) (.ty .err)), .cells 199 0 (.cons (.ty (.slice (.int .u8))) (.ty yI))]⟩
noncomputable def C {α : Type} (K : Nat) : CallsBy α := callsE (M := M) [code_taker_name.e K, code_taker_upto.e K, code_taker_block.e K]
noncomputable def l0.h : SSh := ⟨[0, 2, 3, 14, 15], (.cons (.ptr 0 0) (.cons (.ptr 2 0) (.cons (.ptr 3 0) (.cons (.ty yI) (.ty yI))))), [.cells 196 0 (.cons (.ptr 1 0) (.ty .err)), .cells 199 0 (.cons (.ty (.slice (.int .u8))) (.ty yI)), .cells 47 0 (.cons (.ty .str) (.cons (.ty yI) (.cons (.ty yI) (.own 4)))), .cells 47 0 (.cons (.ty .str) (.cons (.ty yI) (.cons (.ty yI) (.own 5)))), .list 91 yBlock [], .list 91 yBlock []]⟩
noncomputable def l0.x : SSh := ⟨[2, 3], (.cons (.ptr 2 0) (.ptr 3 0)), [.cells 196 0 (.cons (.ptr 1 0) (.ty .err)), .cells 199 0 (.cons (.ty (.slice (.int .u8))) (.ty yI)), .cells 47 0 (.cons (.ty .str) (.cons (.ty yI) (.cons (.ty yI) (.own 4)))), .cells 47 0 (.cons (.ty .str) (.cons (.ty yI) (.cons (.ty yI) (.own 5)))), .list 91 yBlock [], .list 91 yBlock []]⟩
noncomputable def l0.cx : l0.h.I → (Err × Int × List LBlock) → l0.x.I := fun x r => (((), ()), (((), r.1), ((x.2.2.1.1, r.2.1), ((x.2.2.2.1.1, (x.2.2.2.1.2.1, (x.2.2.2.1.2.2.1, ()))), ((x.2.2.2.2.1.1, (x.2.2.2.2.1.2.1, (x.2.2.2.2.1.2.2.1, ()))), (x.2.2.2.2.2.1, (r.2.2, ())))))))
noncomputable def l0.f (K : Nat) : Nat → Int → Int → Err → List Int → Int → List LBlock → Option (Err × Int × List LBlock)
  | 0, _, _, _, _, _, _ => none
  | k + 1, a0, a1, a2, a3, a4, a12 => bif decide (a1 < a0) then (code_taker_block.f K a2 a3 a4).bind fun t => bif (a12.length + [(t.1, t.2.1, t.2.2.1, t.2.2.2.1, t.2.2.2.2.1)].length).ble (100000 : Nat) then l0.f K k a0 (IntKind.i64.wrap (a1 + (1 : Int))) t.2.2.2.2.2.1 a3 t.2.2.2.2.2.2 (a12 ++ [(t.1, t.2.1, t.2.2.1, t.2.2.2.1, t.2.2.2.2.1)]) else none else some (a2, a4, a12)
noncomputable def l0.F (K : Nat) (k : Nat) : l0.h.I → Option (Err × Int × List LBlock) := fun x => l0.f K k x.1.2.2.2.1 x.1.2.2.2.2 x.2.1.2 x.2.2.1.1 x.2.2.1.2 x.2.2.2.2.2.2.1
noncomputable def l0.lp {α : Type} (K : Nat) : St → Kn α → Option α := lpX 2 26 0 l0.h l0.x (l0.F K K) l0.cx
theorem l0.ok {α : Type} (K : Nat) : LoopOk (α := α) M 2 (nthLoop Tryz.f145 0) (l0.lp K) := lpX_okS (C := (C K)) (LP := noLoops) (RF := noRefit) (CP := noCuts) (L := 20) callsE_ok mxd noRefit_ok noCuts_ok (noL (by kernel_rfl)) (lb rfl) (lb rfl) (fun x => rfl) fun k x => by
  rw [withCv_def]
  unfold l0.F
  rw [l0.f]
  try simp only [el]
  kernel_rfl
noncomputable def f (K : Nat) (a0 : Err) (a1 : List Int) (a2 : Int) : Option (ByteArray × Int × Int × List LBlock × Err × Int) := (code_taker_name.f K a0 a1 a2).bind fun t => (code_taker_upto.f K (4 : Int) t.2.1 a1 t.2.2).bind fun t_1 => (code_taker_upto.f K (8 : Int) t_1.2.1 a1 t_1.2.2).bind fun t_2 => (code_taker_upto.f K (12 : Int) t_2.2.1 a1 t_2.2.2).bind fun t_3 => (l0.f K K t_3.1 (0 : Int) t_3.2.1 a1 t_3.2.2 []).bind fun t_4 => some (t.1, t_1.1, t_2.1, t_4.2.2, t_4.1, t_4.2.1)
noncomputable def F (K : Nat) : sig.In → Option (ByteArray × Int × Int × List LBlock × Err × Int) := fun x => f K x.2.1.2 x.2.2.1.1 x.2.2.1.2
noncomputable def cv : sig.In → (ByteArray × Int × Int × List LBlock × Err × Int) → sig.Ou := fun x r => ((r.1, (r.2.1, (r.2.2.1, r.2.2.2.1))), (((), r.2.2.2.2.1), ((x.2.2.1.1, r.2.2.2.2.2), ())))
theorem rets (K : Nat) : ∀ x y, withCv (F K) cv x = some y → Rets M 145 sig x y := runF_retsS (C := (C K)) (LP := (lpPut 5 (l0.lp K) noLoops)) (RF := noRefit) (CP := noCuts) callsE_ok mxd noRefit_ok noCuts_ok (show LoopsOk M 2 (lpPut 5 (l0.lp K) noLoops) (loopsOf (bodyOf Tryz.f145)) from (show loopsOf (bodyOf Tryz.f145) = [nthLoop Tryz.f145 0] by kernel_rfl) ▸ (loopsOk_put (key := 5) (by kernel_rfl) (l0.ok K) noLoops_ok (by kernel_rfl))) (lb rfl) Tryz.func145 (by kernel_rfl) fun x => by
  rw [withCv_def]
  unfold F f
  try simp only [el]
  kernel_rfl
noncomputable def e (K : Nat) : En M := ⟨145, sig, _, F K, cv, by rfl, Tryz.f145, Tryz.func145, by kernel_rfl, rfl, rets K⟩
end code_taker_function
namespace wire_Reader_End
noncomputable def sig : Sig := ⟨(.ptr 0 0), [.cells 199 0 (.cons (.ty (.slice (.int .u8))) (.ty yI))], (.ty .err), [.cells 199 0 (.cons (.ty (.slice (.int .u8))) (.ty yI))]⟩
noncomputable def C {α : Type} (K : Nat) : CallsBy α := callsE (M := M) [wire_Reader_Left.e K, wire_Reader_wrong.e K]
noncomputable def f (K : Nat) (a0 : List Int) (a1 : Int) : Option (Err) := (wire_Reader_Left.f K a0 a1).bind fun t => bif decide (t > (0 : Int)) then wire_Reader_wrong.f K (3 : Int) a1 else some Err.nil
noncomputable def F (K : Nat) : sig.In → Option (Err) := fun x => f K x.2.1.1 x.2.1.2
noncomputable def cv : sig.In → Err → sig.Ou := fun x r => (r, ((x.2.1.1, x.2.1.2), ()))
theorem rets (K : Nat) : ∀ x y, withCv (F K) cv x = some y → Rets M 147 sig x y := runF_retsS (C := (C K)) (LP := noLoops) (RF := noRefit) (CP := noCuts) callsE_ok mxd noRefit_ok noCuts_ok (noL (by kernel_rfl)) (lb rfl) Tryz.func147 (by kernel_rfl) fun x => by
  rw [withCv_def]
  unfold F f
  try simp only [el]
  kernel_rfl
noncomputable def e (K : Nat) : En M := ⟨147, sig, _, F K, cv, by rfl, Tryz.f147, Tryz.func147, by kernel_rfl, rfl, rets K⟩
end wire_Reader_End
namespace code_taker_module
noncomputable def sig : Sig := ⟨(.ptr 0 0), [.cells 196 0 (.cons (.ptr 1 0) (.ty .err)), .cells 199 0 (.cons (.ty (.slice (.int .u8))) (.ty yI))], (.agg (.cons (.ty (.slice yI)) (.cons (.ty (.slice yFunc)) (.ty (.slice yImport))))), [.cells 196 0 (.cons (.ptr 1 0) (.ty .err)), .cells 199 0 (.cons (.ty (.slice (.int .u8))) (.ty yI))]⟩
noncomputable def C {α : Type} (K : Nat) : CallsBy α := callsE (M := M) [wire_Reader_At.e K, wire_Reader_Raw.e K, fault_At.e K, code_taker_upto.e K, code_taker_signed.e K, code_taker_function.e K, code_taker_name.e K, wire_Reader_End.e K]
noncomputable def CP {α : Type} (K : Nat) : CutBy α := (cpPut 4 (rpCut M bindC [.bool] [26] (C K) (eqBy M.P)) noCuts)
theorem CP_ok {α : Type} (K : Nat) : CutsOk (α := α) M 2 (CP K) := (cpPut_ok (rpCut_ok callsE_ok (eqBy_ok _) mxd) noCuts_ok)
noncomputable def l2.h : SSh := ⟨[0, 2, 3, 60, 61], (.cons (.ptr 0 0) (.cons (.ptr 2 0) (.cons (.ptr 3 0) (.cons (.ty yI) (.ty yI))))), [.cells 196 0 (.cons (.ptr 1 0) (.ty .err)), .cells 199 0 (.cons (.ty (.slice (.int .u8))) (.ty yI)), .cells 35 0 (.cons (.own 4) (.cons (.own 5) (.own 6))), .cells 35 0 (.cons (.own 7) (.cons (.own 8) (.own 9))), .list 2 yI [], .list 47 yFunc [], .list 110 yImport [], .list 2 yI [], .list 47 yFunc [], .list 110 yImport []]⟩
noncomputable def l2.x : SSh := ⟨[0, 2, 3], (.cons (.ptr 0 0) (.cons (.ptr 2 0) (.ptr 3 0))), [.cells 196 0 (.cons (.ptr 1 0) (.ty .err)), .cells 199 0 (.cons (.ty (.slice (.int .u8))) (.ty yI)), .cells 35 0 (.cons (.own 4) (.cons (.own 5) (.own 6))), .cells 35 0 (.cons (.own 7) (.cons (.own 8) (.own 9))), .list 2 yI [], .list 47 yFunc [], .list 110 yImport [], .list 2 yI [], .list 47 yFunc [], .list 110 yImport []]⟩
noncomputable def l2.cx : l2.h.I → (Err × Int × List LImport) → l2.x.I := fun x r => (((), ((), ())), (((), r.1), ((x.2.2.1.1, r.2.1), (((), ((), ())), (((), ((), ())), (x.2.2.2.2.2.1, (x.2.2.2.2.2.2.1, (x.2.2.2.2.2.2.2.1, (x.2.2.2.2.2.2.2.2.1, (x.2.2.2.2.2.2.2.2.2.1, (r.2.2, ())))))))))))
noncomputable def l2.f (K : Nat) : Nat → Int → Int → Err → List Int → Int → List LImport → Option (Err × Int × List LImport)
  | 0, _, _, _, _, _, _ => none
  | k + 1, a0, a1, a2, a3, a4, a10 => bif decide (a1 < a0) then (code_taker_name.f K a2 a3 a4).bind fun t => (code_taker_upto.f K (4 : Int) t.2.1 a3 t.2.2).bind fun t_1 => bif (a10.length + [(t.1, t_1.1)].length).ble (100000 : Nat) then l2.f K k a0 (IntKind.i64.wrap (a1 + (1 : Int))) t_1.2.1 a3 t_1.2.2 (a10 ++ [(t.1, t_1.1)]) else none else some (a2, a4, a10)
noncomputable def l2.F (K : Nat) (k : Nat) : l2.h.I → Option (Err × Int × List LImport) := fun x => l2.f K k x.1.2.2.2.1 x.1.2.2.2.2 x.2.1.2 x.2.2.1.1 x.2.2.1.2 x.2.2.2.2.2.2.2.2.2.2.1
noncomputable def l2.lp {α : Type} (K : Nat) : St → Kn α → Option α := lpX 2 88 4 l2.h l2.x (l2.F K K) l2.cx
theorem l2.ok {α : Type} (K : Nat) : LoopOk (α := α) M 2 (nthLoop Tryz.f99 2) (l2.lp K) := lpX_okS (C := (C K)) (LP := noLoops) (RF := noRefit) (CP := (CP K)) (L := 20) callsE_ok mxd noRefit_ok (CP_ok K) (noL (by kernel_rfl)) (lb rfl) (lb rfl) (fun x => rfl) fun k x => by
  rw [withCv_def]
  unfold l2.F
  rw [l2.f]
  try simp only [el]
  kernel_rfl
noncomputable def l1.h : SSh := ⟨[0, 2, 3, 48, 49], (.cons (.ptr 0 0) (.cons (.ptr 2 0) (.cons (.ptr 3 0) (.cons (.ty yI) (.ty yI))))), [.cells 196 0 (.cons (.ptr 1 0) (.ty .err)), .cells 199 0 (.cons (.ty (.slice (.int .u8))) (.ty yI)), .cells 35 0 (.cons (.own 4) (.cons (.own 5) (.own 6))), .cells 35 0 (.cons (.own 7) (.cons (.own 8) (.own 9))), .list 2 yI [], .list 47 yFunc [], .list 110 yImport [], .list 2 yI [], .list 47 yFunc [], .list 110 yImport []]⟩
noncomputable def l1.x : SSh := ⟨[0, 2, 3], (.cons (.ptr 0 0) (.cons (.ptr 2 0) (.ptr 3 0))), [.cells 196 0 (.cons (.ptr 1 0) (.ty .err)), .cells 199 0 (.cons (.ty (.slice (.int .u8))) (.ty yI)), .cells 35 0 (.cons (.own 4) (.cons (.own 5) (.own 6))), .cells 35 0 (.cons (.own 7) (.cons (.own 8) (.own 9))), .list 2 yI [], .list 47 yFunc [], .list 110 yImport [], .list 2 yI [], .list 47 yFunc [], .list 110 yImport []]⟩
noncomputable def l1.cx : l1.h.I → (Err × Int × List LFunc) → l1.x.I := fun x r => (((), ((), ())), (((), r.1), ((x.2.2.1.1, r.2.1), (((), ((), ())), (((), ((), ())), (x.2.2.2.2.2.1, (x.2.2.2.2.2.2.1, (x.2.2.2.2.2.2.2.1, (x.2.2.2.2.2.2.2.2.1, (r.2.2, (x.2.2.2.2.2.2.2.2.2.2.1, ())))))))))))
noncomputable def l1.f (K : Nat) : Nat → Int → Int → Err → List Int → Int → List LFunc → Option (Err × Int × List LFunc)
  | 0, _, _, _, _, _, _ => none
  | k + 1, a0, a1, a2, a3, a4, a9 => bif decide (a1 < a0) then (code_taker_function.f K a2 a3 a4).bind fun t => bif (a9.length + [(t.1, t.2.1, t.2.2.1, t.2.2.2.1)].length).ble (100000 : Nat) then l1.f K k a0 (IntKind.i64.wrap (a1 + (1 : Int))) t.2.2.2.2.1 a3 t.2.2.2.2.2 (a9 ++ [(t.1, t.2.1, t.2.2.1, t.2.2.2.1)]) else none else some (a2, a4, a9)
noncomputable def l1.F (K : Nat) (k : Nat) : l1.h.I → Option (Err × Int × List LFunc) := fun x => l1.f K k x.1.2.2.2.1 x.1.2.2.2.2 x.2.1.2 x.2.2.1.1 x.2.2.1.2 x.2.2.2.2.2.2.2.2.2.1
noncomputable def l1.lp {α : Type} (K : Nat) : St → Kn α → Option α := lpX 2 88 2 l1.h l1.x (l1.F K K) l1.cx
theorem l1.ok {α : Type} (K : Nat) : LoopOk (α := α) M 2 (nthLoop Tryz.f99 1) (l1.lp K) := lpX_okS (C := (C K)) (LP := noLoops) (RF := noRefit) (CP := (CP K)) (L := 20) callsE_ok mxd noRefit_ok (CP_ok K) (noL (by kernel_rfl)) (lb rfl) (lb rfl) (fun x => rfl) fun k x => by
  rw [withCv_def]
  unfold l1.F
  rw [l1.f]
  try simp only [el]
  kernel_rfl
noncomputable def l0.h : SSh := ⟨[0, 2, 3, 36, 37], (.cons (.ptr 0 0) (.cons (.ptr 2 0) (.cons (.ptr 3 0) (.cons (.ty yI) (.ty yI))))), [.cells 196 0 (.cons (.ptr 1 0) (.ty .err)), .cells 199 0 (.cons (.ty (.slice (.int .u8))) (.ty yI)), .cells 35 0 (.cons (.own 4) (.cons (.own 5) (.own 6))), .cells 35 0 (.cons (.own 7) (.cons (.own 8) (.own 9))), .list 2 yI [], .list 47 yFunc [], .list 110 yImport [], .list 2 yI [], .list 47 yFunc [], .list 110 yImport []]⟩
noncomputable def l0.x : SSh := ⟨[0, 2, 3], (.cons (.ptr 0 0) (.cons (.ptr 2 0) (.ptr 3 0))), [.cells 196 0 (.cons (.ptr 1 0) (.ty .err)), .cells 199 0 (.cons (.ty (.slice (.int .u8))) (.ty yI)), .cells 35 0 (.cons (.own 4) (.cons (.own 5) (.own 6))), .cells 35 0 (.cons (.own 7) (.cons (.own 8) (.own 9))), .list 2 yI [], .list 47 yFunc [], .list 110 yImport [], .list 2 yI [], .list 47 yFunc [], .list 110 yImport []]⟩
noncomputable def l0.cx : l0.h.I → (Err × Int × List Int) → l0.x.I := fun x r => (((), ((), ())), (((), r.1), ((x.2.2.1.1, r.2.1), (((), ((), ())), (((), ((), ())), (x.2.2.2.2.2.1, (x.2.2.2.2.2.2.1, (x.2.2.2.2.2.2.2.1, (r.2.2, (x.2.2.2.2.2.2.2.2.2.1, (x.2.2.2.2.2.2.2.2.2.2.1, ())))))))))))
noncomputable def l0.f (K : Nat) : Nat → Int → Int → Err → List Int → Int → List Int → Option (Err × Int × List Int)
  | 0, _, _, _, _, _, _ => none
  | k + 1, a0, a1, a2, a3, a4, a8 => bif decide (a1 < a0) then (code_taker_signed.f K a2 a3 a4).bind fun t => bif (a8.length + [t.1].length).ble (100000 : Nat) then l0.f K k a0 (IntKind.i64.wrap (a1 + (1 : Int))) t.2.1 a3 t.2.2 (a8 ++ [t.1]) else none else some (a2, a4, a8)
noncomputable def l0.F (K : Nat) (k : Nat) : l0.h.I → Option (Err × Int × List Int) := fun x => l0.f K k x.1.2.2.2.1 x.1.2.2.2.2 x.2.1.2 x.2.2.1.1 x.2.2.1.2 x.2.2.2.2.2.2.2.2.1
noncomputable def l0.lp {α : Type} (K : Nat) : St → Kn α → Option α := lpX 2 88 0 l0.h l0.x (l0.F K K) l0.cx
theorem l0.ok {α : Type} (K : Nat) : LoopOk (α := α) M 2 (nthLoop Tryz.f99 0) (l0.lp K) := lpX_okS (C := (C K)) (LP := noLoops) (RF := noRefit) (CP := (CP K)) (L := 20) callsE_ok mxd noRefit_ok (CP_ok K) (noL (by kernel_rfl)) (lb rfl) (lb rfl) (fun x => rfl) fun k x => by
  rw [withCv_def]
  unfold l0.F
  rw [l0.f]
  try simp only [el]
  kernel_rfl
noncomputable def f (K : Nat) (a1 : List Int) (a2 : Int) : Option (List Int × List LFunc × List LImport × Err × Int) := (wire_Reader_At.f K).bind fun t => (wire_Reader_Raw.f K (3 : Int) a1 a2).bind fun t => bindC (bif bif false then !t.2.1.isNil else t.2.1.isNil then some !(strOf t.1).toList == (ByteArray.mk #[(65 : UInt8), (86 : UInt8), (1 : UInt8)]).toList else some false) fun t_1 => bif t_1 then (fault_At.f K (Err.no (3 : Int)) [a2]).bind fun t_2 => (code_taker_upto.f K (16 : Int) t_2 a1 t.2.2).bind fun t => (l0.f K K t.1 (0 : Int) t.2.1 a1 t.2.2 []).bind fun t => (code_taker_upto.f K (24 : Int) t.1 a1 t.2.1).bind fun t_3 => (l1.f K K t_3.1 (0 : Int) t_3.2.1 a1 t_3.2.2 []).bind fun t_4 => (code_taker_upto.f K (24 : Int) t_4.1 a1 t_4.2.1).bind fun t_5 => (l2.f K K t_5.1 (0 : Int) t_5.2.1 a1 t_5.2.2 []).bind fun t_6 => bif bif false then !t_6.1.isNil else t_6.1.isNil then (wire_Reader_End.f K a1 t_6.2.1).bind fun t_7 => some (t.2.2, t_4.2.2, t_6.2.2, t_7, t_6.2.1) else some (t.2.2, t_4.2.2, t_6.2.2, t_6.1, t_6.2.1) else (code_taker_upto.f K (16 : Int) t.2.1 a1 t.2.2).bind fun t => (l0.f K K t.1 (0 : Int) t.2.1 a1 t.2.2 []).bind fun t => (code_taker_upto.f K (24 : Int) t.1 a1 t.2.1).bind fun t_2 => (l1.f K K t_2.1 (0 : Int) t_2.2.1 a1 t_2.2.2 []).bind fun t_3 => (code_taker_upto.f K (24 : Int) t_3.1 a1 t_3.2.1).bind fun t_4 => (l2.f K K t_4.1 (0 : Int) t_4.2.1 a1 t_4.2.2 []).bind fun t_5 => bif bif false then !t_5.1.isNil else t_5.1.isNil then (wire_Reader_End.f K a1 t_5.2.1).bind fun t_6 => some (t.2.2, t_3.2.2, t_5.2.2, t_6, t_5.2.1) else some (t.2.2, t_3.2.2, t_5.2.2, t_5.1, t_5.2.1)
noncomputable def F (K : Nat) : sig.In → Option (List Int × List LFunc × List LImport × Err × Int) := fun x => f K x.2.2.1.1 x.2.2.1.2
noncomputable def cv : sig.In → (List Int × List LFunc × List LImport × Err × Int) → sig.Ou := fun x r => ((r.1, (r.2.1, r.2.2.1)), (((), r.2.2.2.1), ((x.2.2.1.1, r.2.2.2.2), ())))
theorem rets (K : Nat) : ∀ x y, withCv (F K) cv x = some y → Rets M 99 sig x y := runF_retsS (C := (C K)) (LP := (lpPut 8 (l0.lp K) (lpPut 12 (l1.lp K) (lpPut 16 (l2.lp K) noLoops)))) (RF := noRefit) (CP := (CP K)) callsE_ok mxd noRefit_ok (CP_ok K) (show LoopsOk M 2 (lpPut 8 (l0.lp K) (lpPut 12 (l1.lp K) (lpPut 16 (l2.lp K) noLoops))) (loopsOf (bodyOf Tryz.f99)) from (show loopsOf (bodyOf Tryz.f99) = [nthLoop Tryz.f99 0, nthLoop Tryz.f99 1, nthLoop Tryz.f99 2] by kernel_rfl) ▸ (loopsOk_put (key := 8) (by kernel_rfl) (l0.ok K) (loopsOk_put (key := 12) (by kernel_rfl) (l1.ok K) (loopsOk_put (key := 16) (by kernel_rfl) (l2.ok K) noLoops_ok (by kernel_rfl)) (by kernel_rfl)) (by kernel_rfl))) (lb rfl) Tryz.func99 (by kernel_rfl) fun x => by
  rw [withCv_def]
  unfold F f
  try simp only [el]
  kernel_rfl
noncomputable def e (K : Nat) : En M := ⟨99, sig, _, F K, cv, by rfl, Tryz.f99, Tryz.func99, by kernel_rfl, rfl, rets K⟩
end code_taker_module
namespace code_Take
noncomputable def sig : Sig := ⟨(.ptr 0 0), [.cells 199 0 (.cons (.ty (.slice (.int .u8))) (.ty yI))], (.cons (.agg (.cons (.ty (.slice yI)) (.cons (.ty (.slice yFunc)) (.ty (.slice yImport))))) (.ty .err)), [.cells 199 0 (.cons (.ty (.slice (.int .u8))) (.ty yI))]⟩
noncomputable def C {α : Type} (K : Nat) : CallsBy α := callsE (M := M) [code_taker_module.e K, ir_Check.e K]
noncomputable def f (K : Nat) (a0 : List Int) (a1 : Int) : Option (List Int × List LFunc × List LImport × Err × Int) := (code_taker_module.f K a0 a1).bind fun t => bif bif false then !t.2.2.2.1.isNil else t.2.2.2.1.isNil then (ir_Check.f K t.1 t.2.1 t.2.2.1).bind fun t_1 => bif bif true then !t_1.isNil else t_1.isNil then some ([], [], [], t_1, t.2.2.2.2) else some (t.1, t.2.1, t.2.2.1, Err.nil, t.2.2.2.2) else bif bif true then !t.2.2.2.1.isNil else t.2.2.2.1.isNil then some ([], [], [], t.2.2.2.1, t.2.2.2.2) else some (t.1, t.2.1, t.2.2.1, Err.nil, t.2.2.2.2)
noncomputable def F (K : Nat) : sig.In → Option (List Int × List LFunc × List LImport × Err × Int) := fun x => f K x.2.1.1 x.2.1.2
noncomputable def cv : sig.In → (List Int × List LFunc × List LImport × Err × Int) → sig.Ou := fun x r => (((r.1, (r.2.1, r.2.2.1)), r.2.2.2.1), ((x.2.1.1, r.2.2.2.2), ()))
theorem rets (K : Nat) : ∀ x y, withCv (F K) cv x = some y → Rets M 46 sig x y := runF_retsS (C := (C K)) (LP := noLoops) (RF := noRefit) (CP := noCuts) callsE_ok mxd noRefit_ok noCuts_ok (noL (by kernel_rfl)) (lb rfl) Tryz.func46 (by kernel_rfl) fun x => by
  rw [withCv_def]
  unfold F f
  try simp only [el]
  kernel_rfl
noncomputable def e (K : Nat) : En M := ⟨46, sig, _, F K, cv, by rfl, Tryz.f46, Tryz.func46, by kernel_rfl, rfl, rets K⟩
end code_Take
namespace code_Read
noncomputable def sig : Sig := ⟨(.ty (.slice (.int .u8))), [], (.cons (.agg (.cons (.ty (.slice yI)) (.cons (.ty (.slice yFunc)) (.ty (.slice yImport))))) (.ty .err)), []⟩
noncomputable def C {α : Type} (K : Nat) : CallsBy α := callsE (M := M) [wire_Read.e K, code_Take.e K]
noncomputable def f (K : Nat) (a0 : List Int) : Option (List Int × List LFunc × List LImport × Err) := (wire_Read.f K a0).bind fun t => (code_Take.f K t.1 t.2).bind fun t => some (t.1, t.2.1, t.2.2.1, t.2.2.2.1)
noncomputable def F (K : Nat) : sig.In → Option (List Int × List LFunc × List LImport × Err) := fun x => f K x.1
noncomputable def cv : sig.In → (List Int × List LFunc × List LImport × Err) → sig.Ou := fun x r => (((r.1, (r.2.1, r.2.2.1)), r.2.2.2), ())
theorem rets (K : Nat) : ∀ x y, withCv (F K) cv x = some y → Rets M 10 sig x y := runF_retsS (C := (C K)) (LP := noLoops) (RF := noRefit) (CP := noCuts) callsE_ok mxd noRefit_ok noCuts_ok (noL (by kernel_rfl)) (lb rfl) Tryz.func10 (by kernel_rfl) fun x => by
  rw [withCv_def]
  unfold F f
  try simp only [el]
  kernel_rfl
noncomputable def e (K : Nat) : En M := ⟨10, sig, _, F K, cv, by rfl, Tryz.f10, Tryz.func10, by kernel_rfl, rfl, rets K⟩
end code_Read
noncomputable def slices_Clone_int64_int64.sig : Sig := ⟨(.ty (.slice yI)), [], (.ty (.slice yI)), []⟩
noncomputable def slices_Clone_int64_int64.f (K : Nat) (a0 : List Int) : Option (List Int) := bif (0 + a0.length).ble 100000 then some a0 else none
noncomputable def slices_Clone_int64_int64.F (K : Nat) : slices_Clone_int64_int64.sig.In → Option (List Int) := fun x => slices_Clone_int64_int64.f K x.1
noncomputable def slices_Clone_int64_int64.cv : slices_Clone_int64_int64.sig.In → (List Int) → slices_Clone_int64_int64.sig.Ou := fun x r => (r, ())
theorem slices_Clone_int64_int64.rets (K : Nat) : ∀ x y, withCv (slices_Clone_int64_int64.F K) slices_Clone_int64_int64.cv x = some y → Rets M 48 slices_Clone_int64_int64.sig x y := fun x y h =>
  clone_rets (M := M) (g := slices_Clone_int64_int64.sig) (T := yI) (e := 2) (n := 8) (L := 1) (x := x.1) (args0 := x.1) (G := fun xs => bif (0 + xs.length).ble 100000 then some (slices_Clone_int64_int64.cv (xs, ()) xs) else none) (by kernel_rfl) Tryz.func48 (show Tryz.f48.body = some (.seq _ (.seq (.seq (.region _ #[⟨some 3, .move (.tmp 0), _, _, _, none⟩, ⟨some 4, .binOp .eql _ (.tmp 3) (.const (.slice none 0 0)) _, _, _, _, none⟩] false) _) _)) from rfl)
    (by kernel_rfl) rfl rfl (by kernel_rfl) (by decide) (by kernel_rfl) (by kernel_rfl) (by kernel_rfl) (by kernel_rfl) (by kernel_rfl) (by kernel_rfl) (Eq.trans (show (bif (0 + x.1.length).ble 100000 then some (slices_Clone_int64_int64.cv x x.1) else none) = (bif (0 + x.1.length).ble 100000 then some x.1 else none).bind fun r => some (slices_Clone_int64_int64.cv x r) by rw [cond_bind]; rfl) h) x.2
noncomputable def slices_Clone_int64_int64.e (K : Nat) : En M := ⟨48, slices_Clone_int64_int64.sig, _, slices_Clone_int64_int64.F K, slices_Clone_int64_int64.cv, by rfl, Tryz.f48, Tryz.func48, by kernel_rfl, rfl, slices_Clone_int64_int64.rets K⟩
noncomputable def slices_Clone_int64_int64_own.sig : Sig := ⟨(.ty (.slice yI)), [], (.own 0), [.list 2 yI []]⟩
noncomputable def slices_Clone_int64_int64_own.f (K : Nat) (a0 : List Int) : Option (List Int) := bif (0 + a0.length).ble 100000 then some a0 else none
noncomputable def slices_Clone_int64_int64_own.F (K : Nat) : slices_Clone_int64_int64_own.sig.In → Option (List Int) := fun x => slices_Clone_int64_int64_own.f K x.1
noncomputable def slices_Clone_int64_int64_own.cv : slices_Clone_int64_int64_own.sig.In → (List Int) → slices_Clone_int64_int64_own.sig.Ou := fun x r => ((), (r, ()))
theorem slices_Clone_int64_int64_own.rets (K : Nat) : ∀ x y, withCv (slices_Clone_int64_int64_own.F K) slices_Clone_int64_int64_own.cv x = some y → Rets M 48 slices_Clone_int64_int64_own.sig x y := fun x y h =>
  clone_rets (M := M) (g := slices_Clone_int64_int64_own.sig) (T := yI) (e := 2) (n := 8) (L := 1) (x := x.1) (args0 := x.1) (G := fun xs => bif (0 + xs.length).ble 100000 then some (slices_Clone_int64_int64_own.cv (xs, ()) xs) else none) (by kernel_rfl) Tryz.func48 (show Tryz.f48.body = some (.seq _ (.seq (.seq (.region _ #[⟨some 3, .move (.tmp 0), _, _, _, none⟩, ⟨some 4, .binOp .eql _ (.tmp 3) (.const (.slice none 0 0)) _, _, _, _, none⟩] false) _) _)) from rfl)
    (by kernel_rfl) rfl rfl (by kernel_rfl) (by decide) (by kernel_rfl) (by kernel_rfl) (by kernel_rfl) (by kernel_rfl) (by kernel_rfl) (by kernel_rfl) (Eq.trans (show (bif (0 + x.1.length).ble 100000 then some (slices_Clone_int64_int64_own.cv x x.1) else none) = (bif (0 + x.1.length).ble 100000 then some x.1 else none).bind fun r => some (slices_Clone_int64_int64_own.cv x r) by rw [cond_bind]; rfl) h) x.2
noncomputable def slices_Clone_int64_int64_own.e (K : Nat) : En M := ⟨48, slices_Clone_int64_int64_own.sig, _, slices_Clone_int64_int64_own.F K, slices_Clone_int64_int64_own.cv, by rfl, Tryz.f48, Tryz.func48, by kernel_rfl, rfl, slices_Clone_int64_int64_own.rets K⟩
noncomputable def slices_Clone_int64_int64_in.sig : Sig := ⟨(.own 0), [.list 2 yI []], (.ty (.slice yI)), [.list 2 yI []]⟩
noncomputable def slices_Clone_int64_int64_in.f (K : Nat) (a0 : List Int) : Option (List Int) := bif (0 + a0.length).ble 100000 then some a0 else none
noncomputable def slices_Clone_int64_int64_in.F (K : Nat) : slices_Clone_int64_int64_in.sig.In → Option (List Int) := fun x => slices_Clone_int64_int64_in.f K x.2.1
noncomputable def slices_Clone_int64_int64_in.cv : slices_Clone_int64_int64_in.sig.In → (List Int) → slices_Clone_int64_int64_in.sig.Ou := fun x r => (r, (x.2.1, ()))
theorem slices_Clone_int64_int64_in.rets (K : Nat) : ∀ x y, withCv (slices_Clone_int64_int64_in.F K) slices_Clone_int64_int64_in.cv x = some y → Rets M 48 slices_Clone_int64_int64_in.sig x y := fun x y h =>
  cloneO_rets (M := M) (g := slices_Clone_int64_int64_in.sig) (T := yI) (e := 2) (n := 8) (L := 1) (x := x.2.1) (args0 := x.1) (z := x.2) (G := fun xs => bif (0 + xs.length).ble 100000 then some (slices_Clone_int64_int64_in.cv ((), (xs, ())) xs) else none) (by kernel_rfl) Tryz.func48 (show Tryz.f48.body = some (.seq _ (.seq (.seq (.region _ #[⟨some 3, .move (.tmp 0), _, _, _, none⟩, ⟨some 4, .binOp .eql _ (.tmp 3) (.const (.slice none 0 0)) _, _, _, _, none⟩] false) _) _)) from rfl)
    (by kernel_rfl) rfl rfl rfl (by decide) (by decide) (by kernel_rfl) (by decide) (by kernel_rfl) (by kernel_rfl) (by kernel_rfl) (by kernel_rfl) (by kernel_rfl) (by kernel_rfl) (Eq.trans (show (bif (0 + x.2.1.length).ble 100000 then some (slices_Clone_int64_int64_in.cv x x.2.1) else none) = (bif (0 + x.2.1.length).ble 100000 then some x.2.1 else none).bind fun r => some (slices_Clone_int64_int64_in.cv x r) by rw [cond_bind]; rfl) h)
noncomputable def slices_Clone_int64_int64_in.e (K : Nat) : En M := ⟨48, slices_Clone_int64_int64_in.sig, _, slices_Clone_int64_int64_in.F K, slices_Clone_int64_int64_in.cv, by rfl, Tryz.f48, Tryz.func48, by kernel_rfl, rfl, slices_Clone_int64_int64_in.rets K⟩
noncomputable def slices_Clone_int64_int64_ini.sig : Sig := ⟨(.ownI 0), [.many 2 yI], (.ty (.slice yI)), [.many 2 yI]⟩
noncomputable def slices_Clone_int64_int64_ini.f (K : Nat) (a0 : Nat) (a1 : List (List Int)) : Option (List Int) := a1[a0]?.bind fun a => bif (0 + a.length).ble 100000 then some a else none
noncomputable def slices_Clone_int64_int64_ini.F (K : Nat) : slices_Clone_int64_int64_ini.sig.In → Option (List Int) := fun x => slices_Clone_int64_int64_ini.f K x.1 x.2.1
noncomputable def slices_Clone_int64_int64_ini.cv : slices_Clone_int64_int64_ini.sig.In → (List Int) → slices_Clone_int64_int64_ini.sig.Ou := fun x r => (r, (x.2.1, ()))
theorem slices_Clone_int64_int64_ini.rets (K : Nat) : ∀ x y, withCv (slices_Clone_int64_int64_ini.F K) slices_Clone_int64_int64_ini.cv x = some y → Rets M 48 slices_Clone_int64_int64_ini.sig x y := fun x y h => by
  obtain ⟨a, ha, h1, h2⟩ := cloneI_end (cv := slices_Clone_int64_int64_ini.cv x) h
  exact cloneI_rets (M := M) (g := slices_Clone_int64_int64_ini.sig) (T := yI) (e := 2) (n := 8) (L := 1) (kk := x.1) (xss := x.2.1) (x := a) (args0 := x.1) (z := x.2) ha (by kernel_rfl) Tryz.func48 (show Tryz.f48.body = some (.seq _ (.seq (.seq (.region _ #[⟨some 3, .move (.tmp 0), _, _, _, none⟩, ⟨some 4, .binOp .eql _ (.tmp 3) (.const (.slice none 0 0)) _, _, _, _, none⟩] false) _) _)) from rfl)
    (by kernel_rfl) rfl rfl rfl (by decide) (by decide) (by kernel_rfl) (by decide) (by kernel_rfl) (by kernel_rfl) (by kernel_rfl) (by kernel_rfl) (Eq.trans (by kernel_rfl) h1) (fun e => by rw [h2 e]; kernel_rfl)
noncomputable def slices_Clone_int64_int64_ini.e (K : Nat) : En M := ⟨48, slices_Clone_int64_int64_ini.sig, _, slices_Clone_int64_int64_ini.F K, slices_Clone_int64_int64_ini.cv, by rfl, Tryz.f48, Tryz.func48, by kernel_rfl, rfl, slices_Clone_int64_int64_ini.rets K⟩
noncomputable def slices_Clone_ir_Import_ir_Import.sig : Sig := ⟨(.ty (.slice yImport)), [], (.ty (.slice yImport)), []⟩
noncomputable def slices_Clone_ir_Import_ir_Import.f (K : Nat) (a0 : List LImport) : Option (List LImport) := bif (0 + a0.length).ble 100000 then some a0 else none
noncomputable def slices_Clone_ir_Import_ir_Import.F (K : Nat) : slices_Clone_ir_Import_ir_Import.sig.In → Option (List LImport) := fun x => slices_Clone_ir_Import_ir_Import.f K x.1
noncomputable def slices_Clone_ir_Import_ir_Import.cv : slices_Clone_ir_Import_ir_Import.sig.In → (List LImport) → slices_Clone_ir_Import_ir_Import.sig.Ou := fun x r => (r, ())
theorem slices_Clone_ir_Import_ir_Import.rets (K : Nat) : ∀ x y, withCv (slices_Clone_ir_Import_ir_Import.F K) slices_Clone_ir_Import_ir_Import.cv x = some y → Rets M 49 slices_Clone_ir_Import_ir_Import.sig x y := fun x y h =>
  clone_rets (M := M) (g := slices_Clone_ir_Import_ir_Import.sig) (T := yImport) (e := 110) (n := 8) (L := 1) (x := x.1) (args0 := x.1) (G := fun xs => bif (0 + xs.length).ble 100000 then some (slices_Clone_ir_Import_ir_Import.cv (xs, ()) xs) else none) (by kernel_rfl) Tryz.func49 (show Tryz.f49.body = some (.seq _ (.seq (.seq (.region _ #[⟨some 3, .move (.tmp 0), _, _, _, none⟩, ⟨some 4, .binOp .eql _ (.tmp 3) (.const (.slice none 0 0)) _, _, _, _, none⟩] false) _) _)) from rfl)
    (by kernel_rfl) rfl rfl (by kernel_rfl) (by decide) (by kernel_rfl) (by kernel_rfl) (by kernel_rfl) (by kernel_rfl) (by kernel_rfl) (by kernel_rfl) (Eq.trans (show (bif (0 + x.1.length).ble 100000 then some (slices_Clone_ir_Import_ir_Import.cv x x.1) else none) = (bif (0 + x.1.length).ble 100000 then some x.1 else none).bind fun r => some (slices_Clone_ir_Import_ir_Import.cv x r) by rw [cond_bind]; rfl) h) x.2
noncomputable def slices_Clone_ir_Import_ir_Import.e (K : Nat) : En M := ⟨49, slices_Clone_ir_Import_ir_Import.sig, _, slices_Clone_ir_Import_ir_Import.F K, slices_Clone_ir_Import_ir_Import.cv, by rfl, Tryz.f49, Tryz.func49, by kernel_rfl, rfl, slices_Clone_ir_Import_ir_Import.rets K⟩
noncomputable def slices_Clone_ir_Import_ir_Import_own.sig : Sig := ⟨(.ty (.slice yImport)), [], (.own 0), [.list 110 yImport []]⟩
noncomputable def slices_Clone_ir_Import_ir_Import_own.f (K : Nat) (a0 : List LImport) : Option (List LImport) := bif (0 + a0.length).ble 100000 then some a0 else none
noncomputable def slices_Clone_ir_Import_ir_Import_own.F (K : Nat) : slices_Clone_ir_Import_ir_Import_own.sig.In → Option (List LImport) := fun x => slices_Clone_ir_Import_ir_Import_own.f K x.1
noncomputable def slices_Clone_ir_Import_ir_Import_own.cv : slices_Clone_ir_Import_ir_Import_own.sig.In → (List LImport) → slices_Clone_ir_Import_ir_Import_own.sig.Ou := fun x r => ((), (r, ()))
theorem slices_Clone_ir_Import_ir_Import_own.rets (K : Nat) : ∀ x y, withCv (slices_Clone_ir_Import_ir_Import_own.F K) slices_Clone_ir_Import_ir_Import_own.cv x = some y → Rets M 49 slices_Clone_ir_Import_ir_Import_own.sig x y := fun x y h =>
  clone_rets (M := M) (g := slices_Clone_ir_Import_ir_Import_own.sig) (T := yImport) (e := 110) (n := 8) (L := 1) (x := x.1) (args0 := x.1) (G := fun xs => bif (0 + xs.length).ble 100000 then some (slices_Clone_ir_Import_ir_Import_own.cv (xs, ()) xs) else none) (by kernel_rfl) Tryz.func49 (show Tryz.f49.body = some (.seq _ (.seq (.seq (.region _ #[⟨some 3, .move (.tmp 0), _, _, _, none⟩, ⟨some 4, .binOp .eql _ (.tmp 3) (.const (.slice none 0 0)) _, _, _, _, none⟩] false) _) _)) from rfl)
    (by kernel_rfl) rfl rfl (by kernel_rfl) (by decide) (by kernel_rfl) (by kernel_rfl) (by kernel_rfl) (by kernel_rfl) (by kernel_rfl) (by kernel_rfl) (Eq.trans (show (bif (0 + x.1.length).ble 100000 then some (slices_Clone_ir_Import_ir_Import_own.cv x x.1) else none) = (bif (0 + x.1.length).ble 100000 then some x.1 else none).bind fun r => some (slices_Clone_ir_Import_ir_Import_own.cv x r) by rw [cond_bind]; rfl) h) x.2
noncomputable def slices_Clone_ir_Import_ir_Import_own.e (K : Nat) : En M := ⟨49, slices_Clone_ir_Import_ir_Import_own.sig, _, slices_Clone_ir_Import_ir_Import_own.F K, slices_Clone_ir_Import_ir_Import_own.cv, by rfl, Tryz.f49, Tryz.func49, by kernel_rfl, rfl, slices_Clone_ir_Import_ir_Import_own.rets K⟩
noncomputable def slices_Clone_ir_Import_ir_Import_in.sig : Sig := ⟨(.own 0), [.list 110 yImport []], (.ty (.slice yImport)), [.list 110 yImport []]⟩
noncomputable def slices_Clone_ir_Import_ir_Import_in.f (K : Nat) (a0 : List LImport) : Option (List LImport) := bif (0 + a0.length).ble 100000 then some a0 else none
noncomputable def slices_Clone_ir_Import_ir_Import_in.F (K : Nat) : slices_Clone_ir_Import_ir_Import_in.sig.In → Option (List LImport) := fun x => slices_Clone_ir_Import_ir_Import_in.f K x.2.1
noncomputable def slices_Clone_ir_Import_ir_Import_in.cv : slices_Clone_ir_Import_ir_Import_in.sig.In → (List LImport) → slices_Clone_ir_Import_ir_Import_in.sig.Ou := fun x r => (r, (x.2.1, ()))
theorem slices_Clone_ir_Import_ir_Import_in.rets (K : Nat) : ∀ x y, withCv (slices_Clone_ir_Import_ir_Import_in.F K) slices_Clone_ir_Import_ir_Import_in.cv x = some y → Rets M 49 slices_Clone_ir_Import_ir_Import_in.sig x y := fun x y h =>
  cloneO_rets (M := M) (g := slices_Clone_ir_Import_ir_Import_in.sig) (T := yImport) (e := 110) (n := 8) (L := 1) (x := x.2.1) (args0 := x.1) (z := x.2) (G := fun xs => bif (0 + xs.length).ble 100000 then some (slices_Clone_ir_Import_ir_Import_in.cv ((), (xs, ())) xs) else none) (by kernel_rfl) Tryz.func49 (show Tryz.f49.body = some (.seq _ (.seq (.seq (.region _ #[⟨some 3, .move (.tmp 0), _, _, _, none⟩, ⟨some 4, .binOp .eql _ (.tmp 3) (.const (.slice none 0 0)) _, _, _, _, none⟩] false) _) _)) from rfl)
    (by kernel_rfl) rfl rfl rfl (by decide) (by decide) (by kernel_rfl) (by decide) (by kernel_rfl) (by kernel_rfl) (by kernel_rfl) (by kernel_rfl) (by kernel_rfl) (by kernel_rfl) (Eq.trans (show (bif (0 + x.2.1.length).ble 100000 then some (slices_Clone_ir_Import_ir_Import_in.cv x x.2.1) else none) = (bif (0 + x.2.1.length).ble 100000 then some x.2.1 else none).bind fun r => some (slices_Clone_ir_Import_ir_Import_in.cv x r) by rw [cond_bind]; rfl) h)
noncomputable def slices_Clone_ir_Import_ir_Import_in.e (K : Nat) : En M := ⟨49, slices_Clone_ir_Import_ir_Import_in.sig, _, slices_Clone_ir_Import_ir_Import_in.F K, slices_Clone_ir_Import_ir_Import_in.cv, by rfl, Tryz.f49, Tryz.func49, by kernel_rfl, rfl, slices_Clone_ir_Import_ir_Import_in.rets K⟩
noncomputable def slices_Clone_ir_Block_ir_Block.sig : Sig := ⟨(.ty (.slice yBlock)), [], (.ty (.slice yBlock)), []⟩
noncomputable def slices_Clone_ir_Block_ir_Block.f (K : Nat) (a0 : List LBlock) : Option (List LBlock) := bif (0 + a0.length).ble 100000 then some a0 else none
noncomputable def slices_Clone_ir_Block_ir_Block.F (K : Nat) : slices_Clone_ir_Block_ir_Block.sig.In → Option (List LBlock) := fun x => slices_Clone_ir_Block_ir_Block.f K x.1
noncomputable def slices_Clone_ir_Block_ir_Block.cv : slices_Clone_ir_Block_ir_Block.sig.In → (List LBlock) → slices_Clone_ir_Block_ir_Block.sig.Ou := fun x r => (r, ())
theorem slices_Clone_ir_Block_ir_Block.rets (K : Nat) : ∀ x y, withCv (slices_Clone_ir_Block_ir_Block.F K) slices_Clone_ir_Block_ir_Block.cv x = some y → Rets M 100 slices_Clone_ir_Block_ir_Block.sig x y := fun x y h =>
  clone_rets (M := M) (g := slices_Clone_ir_Block_ir_Block.sig) (T := yBlock) (e := 91) (n := 8) (L := 1) (x := x.1) (args0 := x.1) (G := fun xs => bif (0 + xs.length).ble 100000 then some (slices_Clone_ir_Block_ir_Block.cv (xs, ()) xs) else none) (by kernel_rfl) Tryz.func100 (show Tryz.f100.body = some (.seq _ (.seq (.seq (.region _ #[⟨some 3, .move (.tmp 0), _, _, _, none⟩, ⟨some 4, .binOp .eql _ (.tmp 3) (.const (.slice none 0 0)) _, _, _, _, none⟩] false) _) _)) from rfl)
    (by kernel_rfl) rfl rfl (by kernel_rfl) (by decide) (by kernel_rfl) (by kernel_rfl) (by kernel_rfl) (by kernel_rfl) (by kernel_rfl) (by kernel_rfl) (Eq.trans (show (bif (0 + x.1.length).ble 100000 then some (slices_Clone_ir_Block_ir_Block.cv x x.1) else none) = (bif (0 + x.1.length).ble 100000 then some x.1 else none).bind fun r => some (slices_Clone_ir_Block_ir_Block.cv x r) by rw [cond_bind]; rfl) h) x.2
noncomputable def slices_Clone_ir_Block_ir_Block.e (K : Nat) : En M := ⟨100, slices_Clone_ir_Block_ir_Block.sig, _, slices_Clone_ir_Block_ir_Block.F K, slices_Clone_ir_Block_ir_Block.cv, by rfl, Tryz.f100, Tryz.func100, by kernel_rfl, rfl, slices_Clone_ir_Block_ir_Block.rets K⟩
noncomputable def slices_Clone_ir_Block_ir_Block_own.sig : Sig := ⟨(.ty (.slice yBlock)), [], (.own 0), [.list 91 yBlock []]⟩
noncomputable def slices_Clone_ir_Block_ir_Block_own.f (K : Nat) (a0 : List LBlock) : Option (List LBlock) := bif (0 + a0.length).ble 100000 then some a0 else none
noncomputable def slices_Clone_ir_Block_ir_Block_own.F (K : Nat) : slices_Clone_ir_Block_ir_Block_own.sig.In → Option (List LBlock) := fun x => slices_Clone_ir_Block_ir_Block_own.f K x.1
noncomputable def slices_Clone_ir_Block_ir_Block_own.cv : slices_Clone_ir_Block_ir_Block_own.sig.In → (List LBlock) → slices_Clone_ir_Block_ir_Block_own.sig.Ou := fun x r => ((), (r, ()))
theorem slices_Clone_ir_Block_ir_Block_own.rets (K : Nat) : ∀ x y, withCv (slices_Clone_ir_Block_ir_Block_own.F K) slices_Clone_ir_Block_ir_Block_own.cv x = some y → Rets M 100 slices_Clone_ir_Block_ir_Block_own.sig x y := fun x y h =>
  clone_rets (M := M) (g := slices_Clone_ir_Block_ir_Block_own.sig) (T := yBlock) (e := 91) (n := 8) (L := 1) (x := x.1) (args0 := x.1) (G := fun xs => bif (0 + xs.length).ble 100000 then some (slices_Clone_ir_Block_ir_Block_own.cv (xs, ()) xs) else none) (by kernel_rfl) Tryz.func100 (show Tryz.f100.body = some (.seq _ (.seq (.seq (.region _ #[⟨some 3, .move (.tmp 0), _, _, _, none⟩, ⟨some 4, .binOp .eql _ (.tmp 3) (.const (.slice none 0 0)) _, _, _, _, none⟩] false) _) _)) from rfl)
    (by kernel_rfl) rfl rfl (by kernel_rfl) (by decide) (by kernel_rfl) (by kernel_rfl) (by kernel_rfl) (by kernel_rfl) (by kernel_rfl) (by kernel_rfl) (Eq.trans (show (bif (0 + x.1.length).ble 100000 then some (slices_Clone_ir_Block_ir_Block_own.cv x x.1) else none) = (bif (0 + x.1.length).ble 100000 then some x.1 else none).bind fun r => some (slices_Clone_ir_Block_ir_Block_own.cv x r) by rw [cond_bind]; rfl) h) x.2
noncomputable def slices_Clone_ir_Block_ir_Block_own.e (K : Nat) : En M := ⟨100, slices_Clone_ir_Block_ir_Block_own.sig, _, slices_Clone_ir_Block_ir_Block_own.F K, slices_Clone_ir_Block_ir_Block_own.cv, by rfl, Tryz.f100, Tryz.func100, by kernel_rfl, rfl, slices_Clone_ir_Block_ir_Block_own.rets K⟩
noncomputable def slices_Clone_ir_Block_ir_Block_in.sig : Sig := ⟨(.own 0), [.list 91 yBlock []], (.ty (.slice yBlock)), [.list 91 yBlock []]⟩
noncomputable def slices_Clone_ir_Block_ir_Block_in.f (K : Nat) (a0 : List LBlock) : Option (List LBlock) := bif (0 + a0.length).ble 100000 then some a0 else none
noncomputable def slices_Clone_ir_Block_ir_Block_in.F (K : Nat) : slices_Clone_ir_Block_ir_Block_in.sig.In → Option (List LBlock) := fun x => slices_Clone_ir_Block_ir_Block_in.f K x.2.1
noncomputable def slices_Clone_ir_Block_ir_Block_in.cv : slices_Clone_ir_Block_ir_Block_in.sig.In → (List LBlock) → slices_Clone_ir_Block_ir_Block_in.sig.Ou := fun x r => (r, (x.2.1, ()))
theorem slices_Clone_ir_Block_ir_Block_in.rets (K : Nat) : ∀ x y, withCv (slices_Clone_ir_Block_ir_Block_in.F K) slices_Clone_ir_Block_ir_Block_in.cv x = some y → Rets M 100 slices_Clone_ir_Block_ir_Block_in.sig x y := fun x y h =>
  cloneO_rets (M := M) (g := slices_Clone_ir_Block_ir_Block_in.sig) (T := yBlock) (e := 91) (n := 8) (L := 1) (x := x.2.1) (args0 := x.1) (z := x.2) (G := fun xs => bif (0 + xs.length).ble 100000 then some (slices_Clone_ir_Block_ir_Block_in.cv ((), (xs, ())) xs) else none) (by kernel_rfl) Tryz.func100 (show Tryz.f100.body = some (.seq _ (.seq (.seq (.region _ #[⟨some 3, .move (.tmp 0), _, _, _, none⟩, ⟨some 4, .binOp .eql _ (.tmp 3) (.const (.slice none 0 0)) _, _, _, _, none⟩] false) _) _)) from rfl)
    (by kernel_rfl) rfl rfl rfl (by decide) (by decide) (by kernel_rfl) (by decide) (by kernel_rfl) (by kernel_rfl) (by kernel_rfl) (by kernel_rfl) (by kernel_rfl) (by kernel_rfl) (Eq.trans (show (bif (0 + x.2.1.length).ble 100000 then some (slices_Clone_ir_Block_ir_Block_in.cv x x.2.1) else none) = (bif (0 + x.2.1.length).ble 100000 then some x.2.1 else none).bind fun r => some (slices_Clone_ir_Block_ir_Block_in.cv x r) by rw [cond_bind]; rfl) h)
noncomputable def slices_Clone_ir_Block_ir_Block_in.e (K : Nat) : En M := ⟨100, slices_Clone_ir_Block_ir_Block_in.sig, _, slices_Clone_ir_Block_ir_Block_in.F K, slices_Clone_ir_Block_ir_Block_in.cv, by rfl, Tryz.f100, Tryz.func100, by kernel_rfl, rfl, slices_Clone_ir_Block_ir_Block_in.rets K⟩
noncomputable def slices_Clone_ir_Insn_ir_Insn.sig : Sig := ⟨(.ty (.slice yInsn)), [], (.ty (.slice yInsn)), []⟩
noncomputable def slices_Clone_ir_Insn_ir_Insn.f (K : Nat) (a0 : List LInsn) : Option (List LInsn) := bif (0 + a0.length).ble 100000 then some a0 else none
noncomputable def slices_Clone_ir_Insn_ir_Insn.F (K : Nat) : slices_Clone_ir_Insn_ir_Insn.sig.In → Option (List LInsn) := fun x => slices_Clone_ir_Insn_ir_Insn.f K x.1
noncomputable def slices_Clone_ir_Insn_ir_Insn.cv : slices_Clone_ir_Insn_ir_Insn.sig.In → (List LInsn) → slices_Clone_ir_Insn_ir_Insn.sig.Ou := fun x r => (r, ())
theorem slices_Clone_ir_Insn_ir_Insn.rets (K : Nat) : ∀ x y, withCv (slices_Clone_ir_Insn_ir_Insn.F K) slices_Clone_ir_Insn_ir_Insn.cv x = some y → Rets M 101 slices_Clone_ir_Insn_ir_Insn.sig x y := fun x y h =>
  clone_rets (M := M) (g := slices_Clone_ir_Insn_ir_Insn.sig) (T := yInsn) (e := 144) (n := 8) (L := 1) (x := x.1) (args0 := x.1) (G := fun xs => bif (0 + xs.length).ble 100000 then some (slices_Clone_ir_Insn_ir_Insn.cv (xs, ()) xs) else none) (by kernel_rfl) Tryz.func101 (show Tryz.f101.body = some (.seq _ (.seq (.seq (.region _ #[⟨some 3, .move (.tmp 0), _, _, _, none⟩, ⟨some 4, .binOp .eql _ (.tmp 3) (.const (.slice none 0 0)) _, _, _, _, none⟩] false) _) _)) from rfl)
    (by kernel_rfl) rfl rfl (by kernel_rfl) (by decide) (by kernel_rfl) (by kernel_rfl) (by kernel_rfl) (by kernel_rfl) (by kernel_rfl) (by kernel_rfl) (Eq.trans (show (bif (0 + x.1.length).ble 100000 then some (slices_Clone_ir_Insn_ir_Insn.cv x x.1) else none) = (bif (0 + x.1.length).ble 100000 then some x.1 else none).bind fun r => some (slices_Clone_ir_Insn_ir_Insn.cv x r) by rw [cond_bind]; rfl) h) x.2
noncomputable def slices_Clone_ir_Insn_ir_Insn.e (K : Nat) : En M := ⟨101, slices_Clone_ir_Insn_ir_Insn.sig, _, slices_Clone_ir_Insn_ir_Insn.F K, slices_Clone_ir_Insn_ir_Insn.cv, by rfl, Tryz.f101, Tryz.func101, by kernel_rfl, rfl, slices_Clone_ir_Insn_ir_Insn.rets K⟩
noncomputable def slices_Clone_ir_Insn_ir_Insn_own.sig : Sig := ⟨(.ty (.slice yInsn)), [], (.own 0), [.list 144 yInsn []]⟩
noncomputable def slices_Clone_ir_Insn_ir_Insn_own.f (K : Nat) (a0 : List LInsn) : Option (List LInsn) := bif (0 + a0.length).ble 100000 then some a0 else none
noncomputable def slices_Clone_ir_Insn_ir_Insn_own.F (K : Nat) : slices_Clone_ir_Insn_ir_Insn_own.sig.In → Option (List LInsn) := fun x => slices_Clone_ir_Insn_ir_Insn_own.f K x.1
noncomputable def slices_Clone_ir_Insn_ir_Insn_own.cv : slices_Clone_ir_Insn_ir_Insn_own.sig.In → (List LInsn) → slices_Clone_ir_Insn_ir_Insn_own.sig.Ou := fun x r => ((), (r, ()))
theorem slices_Clone_ir_Insn_ir_Insn_own.rets (K : Nat) : ∀ x y, withCv (slices_Clone_ir_Insn_ir_Insn_own.F K) slices_Clone_ir_Insn_ir_Insn_own.cv x = some y → Rets M 101 slices_Clone_ir_Insn_ir_Insn_own.sig x y := fun x y h =>
  clone_rets (M := M) (g := slices_Clone_ir_Insn_ir_Insn_own.sig) (T := yInsn) (e := 144) (n := 8) (L := 1) (x := x.1) (args0 := x.1) (G := fun xs => bif (0 + xs.length).ble 100000 then some (slices_Clone_ir_Insn_ir_Insn_own.cv (xs, ()) xs) else none) (by kernel_rfl) Tryz.func101 (show Tryz.f101.body = some (.seq _ (.seq (.seq (.region _ #[⟨some 3, .move (.tmp 0), _, _, _, none⟩, ⟨some 4, .binOp .eql _ (.tmp 3) (.const (.slice none 0 0)) _, _, _, _, none⟩] false) _) _)) from rfl)
    (by kernel_rfl) rfl rfl (by kernel_rfl) (by decide) (by kernel_rfl) (by kernel_rfl) (by kernel_rfl) (by kernel_rfl) (by kernel_rfl) (by kernel_rfl) (Eq.trans (show (bif (0 + x.1.length).ble 100000 then some (slices_Clone_ir_Insn_ir_Insn_own.cv x x.1) else none) = (bif (0 + x.1.length).ble 100000 then some x.1 else none).bind fun r => some (slices_Clone_ir_Insn_ir_Insn_own.cv x r) by rw [cond_bind]; rfl) h) x.2
noncomputable def slices_Clone_ir_Insn_ir_Insn_own.e (K : Nat) : En M := ⟨101, slices_Clone_ir_Insn_ir_Insn_own.sig, _, slices_Clone_ir_Insn_ir_Insn_own.F K, slices_Clone_ir_Insn_ir_Insn_own.cv, by rfl, Tryz.f101, Tryz.func101, by kernel_rfl, rfl, slices_Clone_ir_Insn_ir_Insn_own.rets K⟩
noncomputable def slices_Clone_ir_Insn_ir_Insn_in.sig : Sig := ⟨(.own 0), [.list 144 yInsn []], (.ty (.slice yInsn)), [.list 144 yInsn []]⟩
noncomputable def slices_Clone_ir_Insn_ir_Insn_in.f (K : Nat) (a0 : List LInsn) : Option (List LInsn) := bif (0 + a0.length).ble 100000 then some a0 else none
noncomputable def slices_Clone_ir_Insn_ir_Insn_in.F (K : Nat) : slices_Clone_ir_Insn_ir_Insn_in.sig.In → Option (List LInsn) := fun x => slices_Clone_ir_Insn_ir_Insn_in.f K x.2.1
noncomputable def slices_Clone_ir_Insn_ir_Insn_in.cv : slices_Clone_ir_Insn_ir_Insn_in.sig.In → (List LInsn) → slices_Clone_ir_Insn_ir_Insn_in.sig.Ou := fun x r => (r, (x.2.1, ()))
theorem slices_Clone_ir_Insn_ir_Insn_in.rets (K : Nat) : ∀ x y, withCv (slices_Clone_ir_Insn_ir_Insn_in.F K) slices_Clone_ir_Insn_ir_Insn_in.cv x = some y → Rets M 101 slices_Clone_ir_Insn_ir_Insn_in.sig x y := fun x y h =>
  cloneO_rets (M := M) (g := slices_Clone_ir_Insn_ir_Insn_in.sig) (T := yInsn) (e := 144) (n := 8) (L := 1) (x := x.2.1) (args0 := x.1) (z := x.2) (G := fun xs => bif (0 + xs.length).ble 100000 then some (slices_Clone_ir_Insn_ir_Insn_in.cv ((), (xs, ())) xs) else none) (by kernel_rfl) Tryz.func101 (show Tryz.f101.body = some (.seq _ (.seq (.seq (.region _ #[⟨some 3, .move (.tmp 0), _, _, _, none⟩, ⟨some 4, .binOp .eql _ (.tmp 3) (.const (.slice none 0 0)) _, _, _, _, none⟩] false) _) _)) from rfl)
    (by kernel_rfl) rfl rfl rfl (by decide) (by decide) (by kernel_rfl) (by decide) (by kernel_rfl) (by kernel_rfl) (by kernel_rfl) (by kernel_rfl) (by kernel_rfl) (by kernel_rfl) (Eq.trans (show (bif (0 + x.2.1.length).ble 100000 then some (slices_Clone_ir_Insn_ir_Insn_in.cv x x.2.1) else none) = (bif (0 + x.2.1.length).ble 100000 then some x.2.1 else none).bind fun r => some (slices_Clone_ir_Insn_ir_Insn_in.cv x r) by rw [cond_bind]; rfl) h)
noncomputable def slices_Clone_ir_Insn_ir_Insn_in.e (K : Nat) : En M := ⟨101, slices_Clone_ir_Insn_ir_Insn_in.sig, _, slices_Clone_ir_Insn_ir_Insn_in.F K, slices_Clone_ir_Insn_ir_Insn_in.cv, by rfl, Tryz.f101, Tryz.func101, by kernel_rfl, rfl, slices_Clone_ir_Insn_ir_Insn_in.rets K⟩
noncomputable def slices_Clone_int_int.sig : Sig := ⟨(.ty (.slice yI)), [], (.ty (.slice yI)), []⟩
noncomputable def slices_Clone_int_int.f (K : Nat) (a0 : List Int) : Option (List Int) := bif (0 + a0.length).ble 100000 then some a0 else none
noncomputable def slices_Clone_int_int.F (K : Nat) : slices_Clone_int_int.sig.In → Option (List Int) := fun x => slices_Clone_int_int.f K x.1
noncomputable def slices_Clone_int_int.cv : slices_Clone_int_int.sig.In → (List Int) → slices_Clone_int_int.sig.Ou := fun x r => (r, ())
theorem slices_Clone_int_int.rets (K : Nat) : ∀ x y, withCv (slices_Clone_int_int.F K) slices_Clone_int_int.cv x = some y → Rets M 102 slices_Clone_int_int.sig x y := fun x y h =>
  clone_rets (M := M) (g := slices_Clone_int_int.sig) (T := yI) (e := 3) (n := 8) (L := 1) (x := x.1) (args0 := x.1) (G := fun xs => bif (0 + xs.length).ble 100000 then some (slices_Clone_int_int.cv (xs, ()) xs) else none) (by kernel_rfl) Tryz.func102 (show Tryz.f102.body = some (.seq _ (.seq (.seq (.region _ #[⟨some 3, .move (.tmp 0), _, _, _, none⟩, ⟨some 4, .binOp .eql _ (.tmp 3) (.const (.slice none 0 0)) _, _, _, _, none⟩] false) _) _)) from rfl)
    (by kernel_rfl) rfl rfl (by kernel_rfl) (by decide) (by kernel_rfl) (by kernel_rfl) (by kernel_rfl) (by kernel_rfl) (by kernel_rfl) (by kernel_rfl) (Eq.trans (show (bif (0 + x.1.length).ble 100000 then some (slices_Clone_int_int.cv x x.1) else none) = (bif (0 + x.1.length).ble 100000 then some x.1 else none).bind fun r => some (slices_Clone_int_int.cv x r) by rw [cond_bind]; rfl) h) x.2
noncomputable def slices_Clone_int_int.e (K : Nat) : En M := ⟨102, slices_Clone_int_int.sig, _, slices_Clone_int_int.F K, slices_Clone_int_int.cv, by rfl, Tryz.f102, Tryz.func102, by kernel_rfl, rfl, slices_Clone_int_int.rets K⟩
noncomputable def slices_Clone_int_int_own.sig : Sig := ⟨(.ty (.slice yI)), [], (.own 0), [.list 3 yI []]⟩
noncomputable def slices_Clone_int_int_own.f (K : Nat) (a0 : List Int) : Option (List Int) := bif (0 + a0.length).ble 100000 then some a0 else none
noncomputable def slices_Clone_int_int_own.F (K : Nat) : slices_Clone_int_int_own.sig.In → Option (List Int) := fun x => slices_Clone_int_int_own.f K x.1
noncomputable def slices_Clone_int_int_own.cv : slices_Clone_int_int_own.sig.In → (List Int) → slices_Clone_int_int_own.sig.Ou := fun x r => ((), (r, ()))
theorem slices_Clone_int_int_own.rets (K : Nat) : ∀ x y, withCv (slices_Clone_int_int_own.F K) slices_Clone_int_int_own.cv x = some y → Rets M 102 slices_Clone_int_int_own.sig x y := fun x y h =>
  clone_rets (M := M) (g := slices_Clone_int_int_own.sig) (T := yI) (e := 3) (n := 8) (L := 1) (x := x.1) (args0 := x.1) (G := fun xs => bif (0 + xs.length).ble 100000 then some (slices_Clone_int_int_own.cv (xs, ()) xs) else none) (by kernel_rfl) Tryz.func102 (show Tryz.f102.body = some (.seq _ (.seq (.seq (.region _ #[⟨some 3, .move (.tmp 0), _, _, _, none⟩, ⟨some 4, .binOp .eql _ (.tmp 3) (.const (.slice none 0 0)) _, _, _, _, none⟩] false) _) _)) from rfl)
    (by kernel_rfl) rfl rfl (by kernel_rfl) (by decide) (by kernel_rfl) (by kernel_rfl) (by kernel_rfl) (by kernel_rfl) (by kernel_rfl) (by kernel_rfl) (Eq.trans (show (bif (0 + x.1.length).ble 100000 then some (slices_Clone_int_int_own.cv x x.1) else none) = (bif (0 + x.1.length).ble 100000 then some x.1 else none).bind fun r => some (slices_Clone_int_int_own.cv x r) by rw [cond_bind]; rfl) h) x.2
noncomputable def slices_Clone_int_int_own.e (K : Nat) : En M := ⟨102, slices_Clone_int_int_own.sig, _, slices_Clone_int_int_own.F K, slices_Clone_int_int_own.cv, by rfl, Tryz.f102, Tryz.func102, by kernel_rfl, rfl, slices_Clone_int_int_own.rets K⟩
noncomputable def slices_Clone_int_int_in.sig : Sig := ⟨(.own 0), [.list 3 yI []], (.ty (.slice yI)), [.list 3 yI []]⟩
noncomputable def slices_Clone_int_int_in.f (K : Nat) (a0 : List Int) : Option (List Int) := bif (0 + a0.length).ble 100000 then some a0 else none
noncomputable def slices_Clone_int_int_in.F (K : Nat) : slices_Clone_int_int_in.sig.In → Option (List Int) := fun x => slices_Clone_int_int_in.f K x.2.1
noncomputable def slices_Clone_int_int_in.cv : slices_Clone_int_int_in.sig.In → (List Int) → slices_Clone_int_int_in.sig.Ou := fun x r => (r, (x.2.1, ()))
theorem slices_Clone_int_int_in.rets (K : Nat) : ∀ x y, withCv (slices_Clone_int_int_in.F K) slices_Clone_int_int_in.cv x = some y → Rets M 102 slices_Clone_int_int_in.sig x y := fun x y h =>
  cloneO_rets (M := M) (g := slices_Clone_int_int_in.sig) (T := yI) (e := 3) (n := 8) (L := 1) (x := x.2.1) (args0 := x.1) (z := x.2) (G := fun xs => bif (0 + xs.length).ble 100000 then some (slices_Clone_int_int_in.cv ((), (xs, ())) xs) else none) (by kernel_rfl) Tryz.func102 (show Tryz.f102.body = some (.seq _ (.seq (.seq (.region _ #[⟨some 3, .move (.tmp 0), _, _, _, none⟩, ⟨some 4, .binOp .eql _ (.tmp 3) (.const (.slice none 0 0)) _, _, _, _, none⟩] false) _) _)) from rfl)
    (by kernel_rfl) rfl rfl rfl (by decide) (by decide) (by kernel_rfl) (by decide) (by kernel_rfl) (by kernel_rfl) (by kernel_rfl) (by kernel_rfl) (by kernel_rfl) (by kernel_rfl) (Eq.trans (show (bif (0 + x.2.1.length).ble 100000 then some (slices_Clone_int_int_in.cv x x.2.1) else none) = (bif (0 + x.2.1.length).ble 100000 then some x.2.1 else none).bind fun r => some (slices_Clone_int_int_in.cv x r) by rw [cond_bind]; rfl) h)
noncomputable def slices_Clone_int_int_in.e (K : Nat) : En M := ⟨102, slices_Clone_int_int_in.sig, _, slices_Clone_int_int_in.F K, slices_Clone_int_int_in.cv, by rfl, Tryz.f102, Tryz.func102, by kernel_rfl, rfl, slices_Clone_int_int_in.rets K⟩
noncomputable def slices_Clone_int_int_ini.sig : Sig := ⟨(.ownI 0), [.many 3 yI], (.ty (.slice yI)), [.many 3 yI]⟩
noncomputable def slices_Clone_int_int_ini.f (K : Nat) (a0 : Nat) (a1 : List (List Int)) : Option (List Int) := a1[a0]?.bind fun a => bif (0 + a.length).ble 100000 then some a else none
noncomputable def slices_Clone_int_int_ini.F (K : Nat) : slices_Clone_int_int_ini.sig.In → Option (List Int) := fun x => slices_Clone_int_int_ini.f K x.1 x.2.1
noncomputable def slices_Clone_int_int_ini.cv : slices_Clone_int_int_ini.sig.In → (List Int) → slices_Clone_int_int_ini.sig.Ou := fun x r => (r, (x.2.1, ()))
theorem slices_Clone_int_int_ini.rets (K : Nat) : ∀ x y, withCv (slices_Clone_int_int_ini.F K) slices_Clone_int_int_ini.cv x = some y → Rets M 102 slices_Clone_int_int_ini.sig x y := fun x y h => by
  obtain ⟨a, ha, h1, h2⟩ := cloneI_end (cv := slices_Clone_int_int_ini.cv x) h
  exact cloneI_rets (M := M) (g := slices_Clone_int_int_ini.sig) (T := yI) (e := 3) (n := 8) (L := 1) (kk := x.1) (xss := x.2.1) (x := a) (args0 := x.1) (z := x.2) ha (by kernel_rfl) Tryz.func102 (show Tryz.f102.body = some (.seq _ (.seq (.seq (.region _ #[⟨some 3, .move (.tmp 0), _, _, _, none⟩, ⟨some 4, .binOp .eql _ (.tmp 3) (.const (.slice none 0 0)) _, _, _, _, none⟩] false) _) _)) from rfl)
    (by kernel_rfl) rfl rfl rfl (by decide) (by decide) (by kernel_rfl) (by decide) (by kernel_rfl) (by kernel_rfl) (by kernel_rfl) (by kernel_rfl) (Eq.trans (by kernel_rfl) h1) (fun e => by rw [h2 e]; kernel_rfl)
noncomputable def slices_Clone_int_int_ini.e (K : Nat) : En M := ⟨102, slices_Clone_int_int_ini.sig, _, slices_Clone_int_int_ini.F K, slices_Clone_int_int_ini.cv, by rfl, Tryz.f102, Tryz.func102, by kernel_rfl, rfl, slices_Clone_int_int_ini.rets K⟩
end
end Go.Proofs.YtdjkdmjdcdljmaaGreat.AT
