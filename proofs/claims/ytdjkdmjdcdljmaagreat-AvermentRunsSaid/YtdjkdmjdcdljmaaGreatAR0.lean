/- Written by a program of this session: what Go functions come to, as plain functions, each shown by the second machine. No condition. -/
import Derived.Test.YtdjkdmjdcdljmaaGreatProg
import Derived.Test.YtdjkdmjdcdljmaaGreatMz
namespace Go.Proofs.YtdjkdmjdcdljmaaGreat.AR
open Go.Proofs.YtdjkdmjdcdljmaaGreatX
noncomputable section
set_option linter.unusedVariables false
set_option linter.unusedSimpArgs false
set_option maxRecDepth 1000000
set_option maxHeartbeats 4000000
abbrev yI : Ty := .int .i64
abbrev yImport : Ty := (.pair .str yI)
abbrev LImport := ByteArray × Int
abbrev yerrorAddressString : Ty := (.pair .str (.int .u64))
abbrev LerrorAddressString := ByteArray × Int
abbrev yplaced : Ty := (.pair yI .err)
abbrev Lplaced := Int × Err
abbrev yKnown : Ty := (.pair .bool yI)
abbrev LKnown := Bool × Int
abbrev ySpan : Ty := (.pair yI yI)
abbrev LSpan := Int × Int
abbrev yReader : Ty := (.pair (.slice (.int .u8)) yI)
abbrev LReader := List Int × Int
abbrev yfields : Ty := (.pair .bool (.pair .bool (.pair .bool .bool)))
abbrev Lfields := Bool × Bool × Bool × Bool
abbrev yways : Ty := (.pair .bool (.pair .bool yKnown))
abbrev Lways := Bool × Bool × LKnown
abbrev ytaker : Ty := (.pair (.ptr yReader) .err)
abbrev Ltaker := Option LReader × Err
abbrev yends : Ty := (.pair ySpan (.pair .bool .bool))
abbrev Lends := LSpan × Bool × Bool
abbrev yboundsError : Ty := (.pair yI (.pair yI (.pair .bool (.int .u8))))
abbrev LboundsError := Int × Int × Bool × Int
abbrev yEnd : Ty := (.pair yI (.pair yI ySpan))
abbrev LEnd := Int × Int × LSpan
abbrev yValue : Ty := (.pair yI (.pair yKnown (.pair ySpan yI)))
abbrev LValue := Int × LKnown × LSpan × Int
abbrev yFrame : Ty := (.pair yI (.pair yI (.pair yI (.pair (.slice yI) (.slice yI)))))
abbrev LFrame := Int × Int × Int × List Int × List Int
abbrev yInsn : Ty := (.pair yI (.pair yI (.pair yI (.pair yI (.pair yI (.slice yI))))))
abbrev LInsn := Int × Int × Int × Int × Int × List Int
abbrev ywalk : Ty := (.pair (.slice (.slice yI)) (.pair (.slice yI) (.pair (.slice yI) (.slice ySpan))))
abbrev Lwalk := List (List Int) × List Int × List Int × List LSpan
abbrev yState : Ty := (.pair .bool (.pair (.slice yValue) (.slice (.slice yI))))
abbrev LState := Bool × List LValue × List (List Int)
abbrev yrow : Ty := (.pair (.pair yI ySpan) (.pair (.pair yI ySpan) (.pair yI ySpan)))
abbrev Lrow := (Int × LSpan) × (Int × LSpan) × Int × LSpan
abbrev yNeed : Ty := (.pair yI (.pair .bool (.pair yI (.slice yValue))))
abbrev LNeed := Int × Bool × Int × List LValue
abbrev yBlock : Ty := (.pair (.slice yInsn) yEnd)
abbrev LBlock := List LInsn × LEnd
abbrev ysited : Ty := (.pair (.slice yInsn) (.pair (.slice yI) yEnd))
abbrev Lsited := List LInsn × List Int × LEnd
abbrev ySum : Ty := (.pair .bool (.pair (.slice yValue) (.pair .bool yValue)))
abbrev LSum := Bool × List LValue × Bool × LValue
abbrev yFunc : Ty := (.pair .str (.pair yI (.pair yI (.slice yBlock))))
abbrev LFunc := ByteArray × Int × Int × List LBlock
abbrev yModule : Ty := (.pair (.slice yI) (.pair (.slice yFunc) (.slice yImport)))
abbrev LModule := List Int × List LFunc × List LImport
abbrev yJob : Ty := (.pair yModule (.pair yI (.pair (.slice yI) (.slice yI))))
abbrev LJob := LModule × Int × List Int × List Int
abbrev yprogram : Ty := (.pair (.slice yFunc) (.pair (.slice (.slice ysited)) (.slice yI)))
abbrev Lprogram := List LFunc × List (List Lsited) × List Int
abbrev yEnv : Ty := (.pair yModule (.pair (.slice yValue) (.slice ySum)))
abbrev LEnv := LModule × List LValue × List LSum
abbrev yMachine : Ty := (.pair (.ptr yprogram) (.pair (.slice yI) (.pair (.slice yI) (.pair (.slice yI) (.pair (.slice yFrame) ySpan)))))
abbrev LMachine := Option Lprogram × List Int × List Int × List Int × List LFrame × LSpan
noncomputable def M : Cfg := { P := Tryz.prog, ty := fun t => bif Nat.beq t 2 then some yI else bif Nat.beq t 3 then some yI else bif Nat.beq t 5 then some (.int .u8) else bif Nat.beq t 47 then some yFunc else bif Nat.beq t 66 then some ySpan else bif Nat.beq t 68 then some yValue else bif Nat.beq t 84 then some (.slice yI) else bif Nat.beq t 86 then some yFrame else bif Nat.beq t 91 then some yBlock else bif Nat.beq t 107 then some yFunc else bif Nat.beq t 110 then some yImport else bif Nat.beq t 136 then some ysited else bif Nat.beq t 137 then some (.slice ysited) else bif Nat.beq t 144 then some yInsn else bif Nat.beq t 147 then some ySum else bif Nat.beq t 175 then some yBlock else bif Nat.beq t 176 then some yInsn else bif Nat.beq t 221 then some yNeed else bif Nat.beq t 271 then some ySpan else none, errno := 127, placed := 235 }
namespace avermentlaw04_Few
/-! ### avermentlaw04_Few: function 32 -/
noncomputable def sig : Sig := ⟨(.agg (.cons (.ty (.slice yI)) (.cons (.ty (.slice yFunc)) (.ty (.slice yImport))))), [], (.agg (.cons (.ty (.slice yI)) (.cons (.ty (.slice yFunc)) (.ty (.slice yImport))))), []⟩
noncomputable def RF : RefitBy := (rfPut 0 113 18 ⟨[1, 2, 3, 4, 5, 6, 7, 8], (.cons (.ptr 0 0) (.cons (.ptr 1 0) (.cons (.ptr 2 0) (.cons (.ty yI) (.cons (.ptr 3 0) (.cons (.ptr 4 0) (.cons (.ty yI) (.ptr 5 0)))))))), [.cells 26 0 (.cons (.ty (.slice yI)) (.cons (.ty (.slice yFunc)) (.ty (.slice yImport)))), .cells 26 0 (.cons (.own 6) (.cons (.own 7) (.own 8))), .cells 26 0 (.cons (.ty (.slice yI)) (.cons (.own 9) (.ty (.slice yImport)))), .cells 107 0 (.cons (.ty .str) (.cons (.ty yI) (.cons (.ty yI) (.ty (.slice yBlock))))), .cells 107 0 (.cons (.ty .str) (.cons (.ty yI) (.cons (.ty yI) (.own 10)))), .cells 175 0 (.cons (.ty (.slice yInsn)) (.cons (.ty yI) (.cons (.ty yI) (.cons (.ty yI) (.ty yI))))), .list 2 yI [], .list 107 yFunc [], .list 109 yImport [], .list 107 yFunc [], .list 175 yBlock []]⟩ (rfPut 0 113 19 ⟨[1, 2, 3, 4, 6], (.cons (.ptr 0 0) (.cons (.ptr 1 0) (.cons (.ptr 2 0) (.cons (.ty yI) (.ptr 3 0))))), [.cells 26 0 (.cons (.ty (.slice yI)) (.cons (.ty (.slice yFunc)) (.ty (.slice yImport)))), .cells 26 0 (.cons (.own 4) (.cons (.own 5) (.own 6))), .cells 26 0 (.cons (.ty (.slice yI)) (.cons (.own 7) (.ty (.slice yImport)))), .cells 107 0 (.cons (.ty .str) (.cons (.ty yI) (.cons (.ty yI) (.ty (.slice yBlock))))), .list 2 yI [], .list 107 yFunc [], .list 109 yImport [], .list 107 yFunc []]⟩ noRefit))
theorem RF_ok : RefitOk M 0 RF := rfPut_ok (Nat.le_of_ble_eq_true rfl) (rfPut_ok (Nat.le_of_ble_eq_true rfl) (noRefit_ok))
noncomputable def C {α : Type} (K : Nat) : CallsBy α := noCalls
theorem C_ok {α : Type} (K : Nat) : CallsOk (α := α) M (C K) := noCalls_ok
noncomputable def CP {α : Type} (K : Nat) : CutBy α := (cpPut 3 (rpCut M bindC [.bool] [34] (C K) (eqBy M.P)) (cpPut 9 (rpCut M bindC [.bool] [52] (C K) (eqBy M.P)) (cpPut 13 (rpCut M bindC [.bool] [74] (C K) (eqBy M.P)) noCuts)))
theorem CP_ok {α : Type} (K : Nat)  : CutsOk (α := α) M 0 (CP K) := (cpPut_ok (rpCut_ok (C_ok K) (eqBy_ok _) (by kernel_rfl)) (cpPut_ok (rpCut_ok (C_ok K) (eqBy_ok _) (by kernel_rfl)) (cpPut_ok (rpCut_ok (C_ok K) (eqBy_ok _) (by kernel_rfl)) noCuts_ok)))
noncomputable def l2.h : SSh := ⟨[1, 2, 3, 4, 5, 6, 7, 8, 9], (.cons (.ptr 0 0) (.cons (.ptr 1 0) (.cons (.ptr 2 0) (.cons (.ty yI) (.cons (.ptr 3 0) (.cons (.ptr 4 0) (.cons (.ty yI) (.cons (.ptr 5 0) (.ty yI))))))))), [.cells 26 0 (.cons (.ty (.slice yI)) (.cons (.ty (.slice yFunc)) (.ty (.slice yImport)))), .cells 26 0 (.cons (.own 6) (.cons (.own 7) (.own 8))), .cells 26 0 (.cons (.ty (.slice yI)) (.cons (.own 9) (.ty (.slice yImport)))), .cells 107 0 (.cons (.ty .str) (.cons (.ty yI) (.cons (.ty yI) (.ty (.slice yBlock))))), .cells 107 0 (.cons (.ty .str) (.cons (.ty yI) (.cons (.ty yI) (.own 10)))), .cells 175 0 (.cons (.own 11) (.cons (.ty yI) (.cons (.ty yI) (.cons (.ty yI) (.ty yI))))), .list 2 yI [], .list 107 yFunc [], .list 109 yImport [], .list 107 yFunc [], .list 175 yBlock [], .list 176 yInsn []]⟩
noncomputable def l2.x : SSh := ⟨[1, 2, 3, 4, 5, 6, 7, 8], (.cons (.ptr 0 0) (.cons (.ptr 1 0) (.cons (.ptr 2 0) (.cons (.ty yI) (.cons (.ptr 3 0) (.cons (.ptr 4 0) (.cons (.ty yI) (.ptr 5 0)))))))), [.cells 26 0 (.cons (.ty (.slice yI)) (.cons (.ty (.slice yFunc)) (.ty (.slice yImport)))), .cells 26 0 (.cons (.own 6) (.cons (.own 7) (.own 8))), .cells 26 0 (.cons (.ty (.slice yI)) (.cons (.own 9) (.ty (.slice yImport)))), .cells 107 0 (.cons (.ty .str) (.cons (.ty yI) (.cons (.ty yI) (.ty (.slice yBlock))))), .cells 107 0 (.cons (.ty .str) (.cons (.ty yI) (.cons (.ty yI) (.own 10)))), .cells 175 0 (.cons (.own 11) (.cons (.ty yI) (.cons (.ty yI) (.cons (.ty yI) (.ty yI))))), .list 2 yI [], .list 107 yFunc [], .list 109 yImport [], .list 107 yFunc [], .list 175 yBlock [], .list 176 yInsn []]⟩
noncomputable def l2.cx : l2.h.I → (List LInsn) → l2.x.I := fun x r => (((), ((), ((), (x.1.2.2.2.1, ((), ((), (x.1.2.2.2.2.2.2.1, ()))))))), ((x.2.1.1, (x.2.1.2.1, x.2.1.2.2)), (((), ((), ())), ((x.2.2.2.1.1, ((), x.2.2.2.1.2.2)), ((x.2.2.2.2.1.1, (x.2.2.2.2.1.2.1, (x.2.2.2.2.1.2.2.1, x.2.2.2.2.1.2.2.2))), ((x.2.2.2.2.2.1.1, (x.2.2.2.2.2.1.2.1, (x.2.2.2.2.2.1.2.2.1, ()))), (((), (x.2.2.2.2.2.2.1.2.1, (x.2.2.2.2.2.2.1.2.2.1, (x.2.2.2.2.2.2.1.2.2.2.1, x.2.2.2.2.2.2.1.2.2.2.2)))), (x.2.2.2.2.2.2.2.1, (x.2.2.2.2.2.2.2.2.1, (x.2.2.2.2.2.2.2.2.2.1, (x.2.2.2.2.2.2.2.2.2.2.1, (x.2.2.2.2.2.2.2.2.2.2.2.1, (r, ())))))))))))))
noncomputable def l2.f (K : Nat) : Nat → Int → Int → List LBlock → List LInsn → Option (List LInsn)
  | 0, _, _, _, _ => none
  | k + 1, a1, a2, a11, a24 => bindC (bif decide ((0 : Int) ≤ a1) && true then a11[a1.toNat]?.bind fun t => bif decide (a2 < (↑(List.length t.1) : Int)) then some (decide (a2 < (14 : Int))) else some false else none) fun t => bif t then bif decide ((0 : Int) ≤ a1) && true then a11[a1.toNat]?.bind fun t => bif decide ((0 : Int) ≤ a2) && true then t.1[a2.toNat]?.bind fun t => bif decide ((↑(0 : Nat) : Int) ≤ if (6 : Int) < (↑(List.length t.2.2.2.2.2) : Int) then (6 : Int) else (↑(List.length t.2.2.2.2.2) : Int)) && decide ((if (6 : Int) < (↑(List.length t.2.2.2.2.2) : Int) then (6 : Int) else (↑(List.length t.2.2.2.2.2) : Int)) ≤ (↑(List.length t.2.2.2.2.2) : Int)) && true then bif (a24.length + [(t.1, t.2.1, t.2.2.1, t.2.2.2.1, t.2.2.2.2.1, List.drop (0 : Nat) (List.take (if (6 : Int) < (↑(List.length t.2.2.2.2.2) : Int) then (6 : Int) else (↑(List.length t.2.2.2.2.2) : Int)).toNat t.2.2.2.2.2))].length).ble (100000 : Nat) then l2.f K k a1 (IntKind.i64.wrap (a2 + (1 : Int))) a11 (a24 ++ [(t.1, t.2.1, t.2.2.1, t.2.2.2.1, t.2.2.2.2.1, List.drop (0 : Nat) (List.take (if (6 : Int) < (↑(List.length t.2.2.2.2.2) : Int) then (6 : Int) else (↑(List.length t.2.2.2.2.2) : Int)).toNat t.2.2.2.2.2))]) else none else none else none else none else some a24
noncomputable def l2.F (K : Nat) (k : Nat) : l2.h.I → Option (List LInsn) := fun x => l2.f K k x.1.2.2.2.2.2.2.1 x.1.2.2.2.2.2.2.2.2 x.2.2.2.2.1.2.2.2 x.2.2.2.2.2.2.2.2.2.2.2.2.1
noncomputable def l2.lp {α : Type} (K : Nat) : St → Kn α → Option α := lpX 0 113 4 l2.h l2.x (l2.F K K) l2.cx
noncomputable def l2.c : Code := nthLoop Tryz.f32 2
noncomputable def l2.LP {α : Type} (K : Nat) : LoopsBy α := noLoops
theorem l2.eq (K : Nat) (k : Nat) (a0 : Int) (a1 : Int) (a2 : Int) (a3 : List Int) (a4 : List LFunc) (a5 : List LImport) (a6 : List Int) (a7 : List LImport) (a8 : ByteArray) (a9 : Int) (a10 : Int) (a11 : List LBlock) (a12 : ByteArray) (a13 : Int) (a14 : Int) (a15 : Int) (a16 : Int) (a17 : Int) (a18 : Int) (a19 : List Int) (a20 : List LFunc) (a21 : List LImport) (a22 : List LFunc) (a23 : List LBlock) (a24 : List LInsn) : exec M (C K) (eqBy M.P) (l2.LP K) RF (CP K) 20 l2.c (Kl 0 l2.h (withCv (l2.F K k) l2.cx) (backX 0 113 4 l2.x)) (l2.h.enc 113 (((), ((), ((), (a0, ((), ((), (a1, ((), a2)))))))), ((a3, (a4, a5)), (((), ((), ())), ((a6, ((), a7)), ((a8, (a9, (a10, a11))), ((a12, (a13, (a14, ()))), (((), (a15, (a16, (a17, a18)))), (a19, (a20, (a21, (a22, (a23, (a24, ())))))))))))))) = (l2.f K (k + 1) a1 a2 a11 a24).bind fun r => some (l2.cx (((), ((), ((), (a0, ((), ((), (a1, ((), a2)))))))), ((a3, (a4, a5)), (((), ((), ())), ((a6, ((), a7)), ((a8, (a9, (a10, a11))), ((a12, (a13, (a14, ()))), (((), (a15, (a16, (a17, a18)))), (a19, (a20, (a21, (a22, (a23, (a24, ()))))))))))))) r) := by
  rw [l2.f]
  try simp only [el]
  kernel_rfl
theorem l2.leads (K : Nat) : ∀ k x y, withCv (l2.F K k) l2.cx x = some y → Leads M 0 (.loop l2.c) (l2.h.enc 113 x) (outX 113 4 l2.x y).1 (outX 113 4 l2.x y).2 :=
  loopX_sound (C_ok K) (eqBy_ok _) (by kernel_rfl) RF_ok (CP_ok K) (show LoopsOk M 0 (l2.LP K) (loopsOf l2.c) from (show loopsOf l2.c = [] by kernel_rfl) ▸ (noLoops_ok)) (Nat.le_of_ble_eq_true rfl) (Nat.le_of_ble_eq_true rfl) (fun x => rfl) (fun k x => l2.eq K k x.1.2.2.2.1 x.1.2.2.2.2.2.2.1 x.1.2.2.2.2.2.2.2.2 x.2.1.1 x.2.1.2.1 x.2.1.2.2 x.2.2.2.1.1 x.2.2.2.1.2.2 x.2.2.2.2.1.1 x.2.2.2.2.1.2.1 x.2.2.2.2.1.2.2.1 x.2.2.2.2.1.2.2.2 x.2.2.2.2.2.1.1 x.2.2.2.2.2.1.2.1 x.2.2.2.2.2.1.2.2.1 x.2.2.2.2.2.2.1.2.1 x.2.2.2.2.2.2.1.2.2.1 x.2.2.2.2.2.2.1.2.2.2.1 x.2.2.2.2.2.2.1.2.2.2.2 x.2.2.2.2.2.2.2.1 x.2.2.2.2.2.2.2.2.1 x.2.2.2.2.2.2.2.2.2.1 x.2.2.2.2.2.2.2.2.2.2.1 x.2.2.2.2.2.2.2.2.2.2.2.1 x.2.2.2.2.2.2.2.2.2.2.2.2.1)
theorem l2.lp_ok {α : Type} (K : Nat) : LoopOk (α := α) M 0 (nthLoop Tryz.f32 2) (l2.lp K) := lpX_ok (Nat.le_of_ble_eq_true rfl) (l2.leads K K)
noncomputable def l1.h : SSh := ⟨[1, 2, 3, 4, 5, 6, 7], (.cons (.ptr 0 0) (.cons (.ptr 1 0) (.cons (.ptr 2 0) (.cons (.ty yI) (.cons (.ptr 3 0) (.cons (.ptr 4 0) (.ty yI))))))), [.cells 26 0 (.cons (.ty (.slice yI)) (.cons (.ty (.slice yFunc)) (.ty (.slice yImport)))), .cells 26 0 (.cons (.own 5) (.cons (.own 6) (.own 7))), .cells 26 0 (.cons (.ty (.slice yI)) (.cons (.own 8) (.ty (.slice yImport)))), .cells 107 0 (.cons (.ty .str) (.cons (.ty yI) (.cons (.ty yI) (.ty (.slice yBlock))))), .cells 107 0 (.cons (.ty .str) (.cons (.ty yI) (.cons (.ty yI) (.own 9)))), .list 2 yI [], .list 107 yFunc [], .list 109 yImport [], .list 107 yFunc [], .list 175 yBlock []]⟩
noncomputable def l1.x : SSh := ⟨[1, 2, 3, 4, 6], (.cons (.ptr 0 0) (.cons (.ptr 1 0) (.cons (.ptr 2 0) (.cons (.ty yI) (.ptr 3 0))))), [.cells 26 0 (.cons (.ty (.slice yI)) (.cons (.ty (.slice yFunc)) (.ty (.slice yImport)))), .cells 26 0 (.cons (.own 4) (.cons (.own 5) (.own 6))), .cells 26 0 (.cons (.ty (.slice yI)) (.cons (.own 7) (.ty (.slice yImport)))), .cells 107 0 (.cons (.ty .str) (.cons (.ty yI) (.cons (.ty yI) (.own 8)))), .list 2 yI [], .list 107 yFunc [], .list 109 yImport [], .list 107 yFunc [], .list 175 yBlock []]⟩
noncomputable def l1.cx : l1.h.I → (List LBlock) → l1.x.I := fun x r => (((), ((), ((), (x.1.2.2.2.1, ())))), ((x.2.1.1, (x.2.1.2.1, x.2.1.2.2)), (((), ((), ())), ((x.2.2.2.1.1, ((), x.2.2.2.1.2.2)), ((x.2.2.2.2.2.1.1, (x.2.2.2.2.2.1.2.1, (x.2.2.2.2.2.1.2.2.1, ()))), (x.2.2.2.2.2.2.1, (x.2.2.2.2.2.2.2.1, (x.2.2.2.2.2.2.2.2.1, (x.2.2.2.2.2.2.2.2.2.1, (r, ()))))))))))
noncomputable def l1.f (K : Nat) : Nat → Int → List LBlock → List LBlock → Option (List LBlock)
  | 0, _, _, _ => none
  | k + 1, a1, a10, a18 => bindC (bif decide (a1 < (↑a10.length : Int)) then some (decide (a1 < (14 : Int))) else some false) fun t => bif t then bif decide ((0 : Int) ≤ a1) && true then a10[a1.toNat]?.bind fun t => (l2.f K K a1 (0 : Int) a10 []).bind fun t_1 => bif (a18.length + [(t_1, t.2.1, t.2.2.1, t.2.2.2.1, t.2.2.2.2)].length).ble (100000 : Nat) then l1.f K k (IntKind.i64.wrap (a1 + (1 : Int))) a10 (a18 ++ [(t_1, t.2.1, t.2.2.1, t.2.2.2.1, t.2.2.2.2)]) else none else none else some a18
noncomputable def l1.F (K : Nat) (k : Nat) : l1.h.I → Option (List LBlock) := fun x => l1.f K k x.1.2.2.2.2.2.2 x.2.2.2.2.1.2.2.2 x.2.2.2.2.2.2.2.2.2.2.1
noncomputable def l1.lp {α : Type} (K : Nat) : St → Kn α → Option α := lpX 0 113 2 l1.h l1.x (l1.F K K) l1.cx
noncomputable def l1.c : Code := nthLoop Tryz.f32 1
noncomputable def l1.LP {α : Type} (K : Nat) : LoopsBy α := (lpPut 13 (l2.lp K) noLoops)
theorem l1.eq (K : Nat) (k : Nat) (a0 : Int) (a1 : Int) (a2 : List Int) (a3 : List LFunc) (a4 : List LImport) (a5 : List Int) (a6 : List LImport) (a7 : ByteArray) (a8 : Int) (a9 : Int) (a10 : List LBlock) (a11 : ByteArray) (a12 : Int) (a13 : Int) (a14 : List Int) (a15 : List LFunc) (a16 : List LImport) (a17 : List LFunc) (a18 : List LBlock) : exec M (C K) (eqBy M.P) (l1.LP K) RF (CP K) 20 l1.c (Kl 0 l1.h (withCv (l1.F K k) l1.cx) (backX 0 113 2 l1.x)) (l1.h.enc 113 (((), ((), ((), (a0, ((), ((), a1)))))), ((a2, (a3, a4)), (((), ((), ())), ((a5, ((), a6)), ((a7, (a8, (a9, a10))), ((a11, (a12, (a13, ()))), (a14, (a15, (a16, (a17, (a18, ())))))))))))) = (l1.f K (k + 1) a1 a10 a18).bind fun r => some (l1.cx (((), ((), ((), (a0, ((), ((), a1)))))), ((a2, (a3, a4)), (((), ((), ())), ((a5, ((), a6)), ((a7, (a8, (a9, a10))), ((a11, (a12, (a13, ()))), (a14, (a15, (a16, (a17, (a18, ()))))))))))) r) := by
  rw [l1.f]
  try simp only [el]
  kernel_rfl
theorem l1.leads (K : Nat) : ∀ k x y, withCv (l1.F K k) l1.cx x = some y → Leads M 0 (.loop l1.c) (l1.h.enc 113 x) (outX 113 2 l1.x y).1 (outX 113 2 l1.x y).2 :=
  loopX_sound (C_ok K) (eqBy_ok _) (by kernel_rfl) RF_ok (CP_ok K) (show LoopsOk M 0 (l1.LP K) (loopsOf l1.c) from (show loopsOf l1.c = [nthLoop Tryz.f32 2] by kernel_rfl) ▸ ((loopsOk_put (key := 13) (by kernel_rfl) (l2.lp_ok K) noLoops_ok (by kernel_rfl)))) (Nat.le_of_ble_eq_true rfl) (Nat.le_of_ble_eq_true rfl) (fun x => rfl) (fun k x => l1.eq K k x.1.2.2.2.1 x.1.2.2.2.2.2.2 x.2.1.1 x.2.1.2.1 x.2.1.2.2 x.2.2.2.1.1 x.2.2.2.1.2.2 x.2.2.2.2.1.1 x.2.2.2.2.1.2.1 x.2.2.2.2.1.2.2.1 x.2.2.2.2.1.2.2.2 x.2.2.2.2.2.1.1 x.2.2.2.2.2.1.2.1 x.2.2.2.2.2.1.2.2.1 x.2.2.2.2.2.2.1 x.2.2.2.2.2.2.2.1 x.2.2.2.2.2.2.2.2.1 x.2.2.2.2.2.2.2.2.2.1 x.2.2.2.2.2.2.2.2.2.2.1)
theorem l1.lp_ok {α : Type} (K : Nat) : LoopOk (α := α) M 0 (nthLoop Tryz.f32 1) (l1.lp K) := lpX_ok (Nat.le_of_ble_eq_true rfl) (l1.leads K K)
noncomputable def l0.h : SSh := ⟨[1, 2, 3, 4], (.cons (.ptr 0 0) (.cons (.ptr 1 0) (.cons (.ptr 2 0) (.ty yI)))), [.cells 26 0 (.cons (.ty (.slice yI)) (.cons (.ty (.slice yFunc)) (.ty (.slice yImport)))), .cells 26 0 (.cons (.own 3) (.cons (.own 4) (.own 5))), .cells 26 0 (.cons (.ty (.slice yI)) (.cons (.own 6) (.ty (.slice yImport)))), .list 2 yI [], .list 107 yFunc [], .list 109 yImport [], .list 107 yFunc []]⟩
noncomputable def l0.x : SSh := ⟨[2, 3], (.cons (.ptr 0 0) (.ptr 1 0)), [.cells 26 0 (.cons (.own 2) (.cons (.own 3) (.own 4))), .cells 26 0 (.cons (.ty (.slice yI)) (.cons (.own 5) (.ty (.slice yImport)))), .list 2 yI [], .list 107 yFunc [], .list 109 yImport [], .list 107 yFunc []]⟩
noncomputable def l0.cx : l0.h.I → (List LFunc) → l0.x.I := fun x r => (((), ()), (((), ((), ())), ((x.2.2.2.1.1, ((), x.2.2.2.1.2.2)), (x.2.2.2.2.1, (x.2.2.2.2.2.1, (x.2.2.2.2.2.2.1, (r, ())))))))
noncomputable def l0.f (K : Nat) : Nat → Int → List LFunc → List LFunc → Option (List LFunc)
  | 0, _, _, _ => none
  | k + 1, a0, a2, a9 => bindC (bif decide (a0 < (↑a2.length : Int)) then some (decide (a0 < (30 : Int))) else some false) fun t => bif t then bif decide ((0 : Int) ≤ a0) && true then a2[a0.toNat]?.bind fun t => (l1.f K K (0 : Int) t.2.2.2 []).bind fun t_1 => bif (a9.length + [(t.1, t.2.1, t.2.2.1, t_1)].length).ble (100000 : Nat) then l0.f K k (IntKind.i64.wrap (a0 + (1 : Int))) a2 (a9 ++ [(t.1, t.2.1, t.2.2.1, t_1)]) else none else none else some a9
noncomputable def l0.F (K : Nat) (k : Nat) : l0.h.I → Option (List LFunc) := fun x => l0.f K k x.1.2.2.2 x.2.1.2.1 x.2.2.2.2.2.2.2.1
noncomputable def l0.lp {α : Type} (K : Nat) : St → Kn α → Option α := lpX 0 113 0 l0.h l0.x (l0.F K K) l0.cx
noncomputable def l0.c : Code := nthLoop Tryz.f32 0
noncomputable def l0.LP {α : Type} (K : Nat) : LoopsBy α := (lpPut 9 (l1.lp K) (lpPut 13 (l2.lp K) noLoops))
theorem l0.eq (K : Nat) (k : Nat) (a0 : Int) (a1 : List Int) (a2 : List LFunc) (a3 : List LImport) (a4 : List Int) (a5 : List LImport) (a6 : List Int) (a7 : List LFunc) (a8 : List LImport) (a9 : List LFunc) : exec M (C K) (eqBy M.P) (l0.LP K) RF (CP K) 20 l0.c (Kl 0 l0.h (withCv (l0.F K k) l0.cx) (backX 0 113 0 l0.x)) (l0.h.enc 113 (((), ((), ((), a0))), ((a1, (a2, a3)), (((), ((), ())), ((a4, ((), a5)), (a6, (a7, (a8, (a9, ()))))))))) = (l0.f K (k + 1) a0 a2 a9).bind fun r => some (l0.cx (((), ((), ((), a0))), ((a1, (a2, a3)), (((), ((), ())), ((a4, ((), a5)), (a6, (a7, (a8, (a9, ())))))))) r) := by
  rw [l0.f]
  try simp only [el]
  kernel_rfl
theorem l0.leads (K : Nat) : ∀ k x y, withCv (l0.F K k) l0.cx x = some y → Leads M 0 (.loop l0.c) (l0.h.enc 113 x) (outX 113 0 l0.x y).1 (outX 113 0 l0.x y).2 :=
  loopX_sound (C_ok K) (eqBy_ok _) (by kernel_rfl) RF_ok (CP_ok K) (show LoopsOk M 0 (l0.LP K) (loopsOf l0.c) from (show loopsOf l0.c = [nthLoop Tryz.f32 1, nthLoop Tryz.f32 2] by kernel_rfl) ▸ ((loopsOk_put (key := 9) (by kernel_rfl) (l1.lp_ok K) (loopsOk_put (key := 13) (by kernel_rfl) (l2.lp_ok K) noLoops_ok (by kernel_rfl)) (by kernel_rfl)))) (Nat.le_of_ble_eq_true rfl) (Nat.le_of_ble_eq_true rfl) (fun x => rfl) (fun k x => l0.eq K k x.1.2.2.2 x.2.1.1 x.2.1.2.1 x.2.1.2.2 x.2.2.2.1.1 x.2.2.2.1.2.2 x.2.2.2.2.1 x.2.2.2.2.2.1 x.2.2.2.2.2.2.1 x.2.2.2.2.2.2.2.1)
theorem l0.lp_ok {α : Type} (K : Nat) : LoopOk (α := α) M 0 (nthLoop Tryz.f32 0) (l0.lp K) := lpX_ok (Nat.le_of_ble_eq_true rfl) (l0.leads K K)
noncomputable def f (K : Nat) (a0 : List Int) (a1 : List LFunc) (a2 : List LImport) : Option (List Int × List LFunc × List LImport) := bif decide ((↑(0 : Nat) : Int) ≤ if (20 : Int) < (↑a0.length : Int) then (20 : Int) else (↑a0.length : Int)) && decide ((if (20 : Int) < (↑a0.length : Int) then (20 : Int) else (↑a0.length : Int)) ≤ (↑a0.length : Int)) && true then bif decide ((↑(0 : Nat) : Int) ≤ if (30 : Int) < (↑a2.length : Int) then (30 : Int) else (↑a2.length : Int)) && decide ((if (30 : Int) < (↑a2.length : Int) then (30 : Int) else (↑a2.length : Int)) ≤ (↑a2.length : Int)) && true then (l0.f K K (0 : Int) a1 []).bind fun t => some (List.drop (0 : Nat) (List.take (if (20 : Int) < (↑a0.length : Int) then (20 : Int) else (↑a0.length : Int)).toNat a0), t, List.drop (0 : Nat) (List.take (if (30 : Int) < (↑a2.length : Int) then (30 : Int) else (↑a2.length : Int)).toNat a2)) else none else none
noncomputable def F (K : Nat) : sig.In → Option (List Int × List LFunc × List LImport) := fun x => f K x.1.1 x.1.2.1 x.1.2.2
noncomputable def cv : sig.In → (List Int × List LFunc × List LImport) → sig.Ou := fun x r => ((r.1, (r.2.1, r.2.2)), ())
noncomputable def LP {α : Type} (K : Nat) : LoopsBy α := (lpPut 3 (l0.lp K) (lpPut 9 (l1.lp K) (lpPut 13 (l2.lp K) noLoops)))
theorem eq (K : Nat) (a0 : List Int) (a1 : List LFunc) (a2 : List LImport) : runF M sig (C K) (eqBy M.P) (LP K) RF (CP K) 20 Tryz.f32 (bodyOf Tryz.f32) ((a0, (a1, a2)), ()) = (f K a0 a1 a2).bind fun r => some (cv ((a0, (a1, a2)), ()) r) := by
  unfold f
  try simp only [el]
  kernel_rfl
theorem rets (K : Nat) : ∀ x y, withCv (F K) cv x = some y → Rets M 32 sig x y := fun x y h => runF_rets (L := 20) (C_ok K) (eqBy_ok _) (by kernel_rfl) RF_ok (CP_ok K) (show LoopsOk M 0 (LP K) (loopsOf (bodyOf Tryz.f32)) from (show loopsOf (bodyOf Tryz.f32) = [nthLoop Tryz.f32 0, nthLoop Tryz.f32 1, nthLoop Tryz.f32 2] by kernel_rfl) ▸ (loopsOk_put (key := 3) (by kernel_rfl) (l0.lp_ok K) (loopsOk_put (key := 9) (by kernel_rfl) (l1.lp_ok K) (loopsOk_put (key := 13) (by kernel_rfl) (l2.lp_ok K) noLoops_ok (by kernel_rfl)) (by kernel_rfl)) (by kernel_rfl))) (Nat.le_of_ble_eq_true rfl) Tryz.func32 (by kernel_rfl) ((eq K x.1.1 x.1.2.1 x.1.2.2).trans h)
end avermentlaw04_Few
namespace avermentlaw07_Few
/-! ### avermentlaw07_Few: function 5 -/
noncomputable def sig : Sig := ⟨(.agg (.cons (.ty (.slice yI)) (.cons (.ty (.slice yFunc)) (.cons (.ty (.slice yImport)) (.cons (.ty yI) (.cons (.ty (.slice yI)) (.ty (.slice yI)))))))), [], (.agg (.cons (.ty (.slice yI)) (.cons (.ty (.slice yFunc)) (.cons (.ty (.slice yImport)) (.cons (.ty yI) (.cons (.ty (.slice yI)) (.ty (.slice yI)))))))), []⟩
noncomputable def RF : RefitBy := noRefit
theorem RF_ok : RefitOk M 0 RF := noRefit_ok
noncomputable def C {α : Type} (K : Nat) : CallsBy α := (entryD 32 avermentlaw04_Few.sig (avermentlaw04_Few.F K) avermentlaw04_Few.cv noCalls)
theorem C_ok {α : Type} (K : Nat) : CallsOk (α := α) M (C K) := (entryD_ok noCalls_ok (by rfl) Tryz.func32 (by kernel_rfl) rfl (avermentlaw04_Few.rets K))
noncomputable def CP {α : Type} (K : Nat) : CutBy α := noCuts
theorem CP_ok {α : Type} (K : Nat)  : CutsOk (α := α) M 0 (CP K) := noCuts_ok
noncomputable def f (K : Nat) (a0 : List Int) (a1 : List LFunc) (a2 : List LImport) (a4 : List Int) (a5 : List Int) : Option (List Int × List LFunc × List LImport × List Int × List Int) := (avermentlaw04_Few.f K a0 a1 a2).bind fun t => bif decide ((↑(0 : Nat) : Int) ≤ if (8 : Int) < (↑a4.length : Int) then (8 : Int) else (↑a4.length : Int)) && decide ((if (8 : Int) < (↑a4.length : Int) then (8 : Int) else (↑a4.length : Int)) ≤ (↑a4.length : Int)) && true then bif decide ((↑(0 : Nat) : Int) ≤ if (40 : Int) < (↑a5.length : Int) then (40 : Int) else (↑a5.length : Int)) && decide ((if (40 : Int) < (↑a5.length : Int) then (40 : Int) else (↑a5.length : Int)) ≤ (↑a5.length : Int)) && true then some (t.1, t.2.1, t.2.2, List.drop (0 : Nat) (List.take (if (8 : Int) < (↑a4.length : Int) then (8 : Int) else (↑a4.length : Int)).toNat a4), List.drop (0 : Nat) (List.take (if (40 : Int) < (↑a5.length : Int) then (40 : Int) else (↑a5.length : Int)).toNat a5)) else none else none
noncomputable def F (K : Nat) : sig.In → Option (List Int × List LFunc × List LImport × List Int × List Int) := fun x => f K x.1.1 x.1.2.1 x.1.2.2.1 x.1.2.2.2.2.1 x.1.2.2.2.2.2
noncomputable def cv : sig.In → (List Int × List LFunc × List LImport × List Int × List Int) → sig.Ou := fun x r => ((r.1, (r.2.1, (r.2.2.1, (x.1.2.2.2.1, (r.2.2.2.1, r.2.2.2.2))))), ())
noncomputable def LP {α : Type} (K : Nat) : LoopsBy α := noLoops
theorem eq (K : Nat) (a0 : List Int) (a1 : List LFunc) (a2 : List LImport) (a3 : Int) (a4 : List Int) (a5 : List Int) : runF M sig (C K) (eqBy M.P) (LP K) RF (CP K) 20 Tryz.f5 (bodyOf Tryz.f5) ((a0, (a1, (a2, (a3, (a4, a5))))), ()) = (f K a0 a1 a2 a4 a5).bind fun r => some (cv ((a0, (a1, (a2, (a3, (a4, a5))))), ()) r) := by
  unfold f
  try simp only [el]
  kernel_rfl
theorem rets (K : Nat) : ∀ x y, withCv (F K) cv x = some y → Rets M 5 sig x y := fun x y h => runF_rets (L := 20) (C_ok K) (eqBy_ok _) (by kernel_rfl) RF_ok (CP_ok K) (show LoopsOk M 0 (LP K) (loopsOf (bodyOf Tryz.f5)) from (show loopsOf (bodyOf Tryz.f5) = [] by kernel_rfl) ▸ noLoops_ok) (Nat.le_of_ble_eq_true rfl) Tryz.func5 (by kernel_rfl) ((eq K x.1.1 x.1.2.1 x.1.2.2.1 x.1.2.2.2.1 x.1.2.2.2.2.1 x.1.2.2.2.2.2).trans h)
end avermentlaw07_Few
namespace avermentlaw04_Tiny
/-! ### avermentlaw04_Tiny: function 33 -/
noncomputable def sig : Sig := ⟨.unit, [], (.agg (.cons (.ty (.slice yI)) (.cons (.ty (.slice yFunc)) (.ty (.slice yImport))))), []⟩
noncomputable def RF : RefitBy := noRefit
theorem RF_ok : RefitOk M 0 RF := noRefit_ok
noncomputable def C {α : Type} (K : Nat) : CallsBy α := noCalls
theorem C_ok {α : Type} (K : Nat) : CallsOk (α := α) M (C K) := noCalls_ok
noncomputable def CP {α : Type} (K : Nat) : CutBy α := noCuts
theorem CP_ok {α : Type} (K : Nat)  : CutsOk (α := α) M 0 (CP K) := noCuts_ok
noncomputable def f (K : Nat) : Option (List Int × List LFunc × List LImport) := some ([], [(ByteArray.mk #[(109 : UInt8), (97 : UInt8), (105 : UInt8), (110 : UInt8)], (0 : Int), (2 : Int), [([((1 : Int), (1 : Int), (0 : Int), (0 : Int), (5 : Int), [])], (3 : Int), (1 : Int), (0 : Int), (0 : Int))])], [])
noncomputable def F (K : Nat) : sig.In → Option (List Int × List LFunc × List LImport) := fun x => f K
noncomputable def cv : sig.In → (List Int × List LFunc × List LImport) → sig.Ou := fun x r => ((r.1, (r.2.1, r.2.2)), ())
noncomputable def LP {α : Type} (K : Nat) : LoopsBy α := noLoops
theorem eq (K : Nat) : runF M sig (C K) (eqBy M.P) (LP K) RF (CP K) 20 Tryz.f33 (bodyOf Tryz.f33) ((), ()) = (f K).bind fun r => some (cv ((), ()) r) := by
  unfold f
  try simp only [el]
  kernel_rfl
theorem rets (K : Nat) : ∀ x y, withCv (F K) cv x = some y → Rets M 33 sig x y := fun x y h => runF_rets (L := 20) (C_ok K) (eqBy_ok _) (by kernel_rfl) RF_ok (CP_ok K) (show LoopsOk M 0 (LP K) (loopsOf (bodyOf Tryz.f33)) from (show loopsOf (bodyOf Tryz.f33) = [] by kernel_rfl) ▸ noLoops_ok) (Nat.le_of_ble_eq_true rfl) Tryz.func33 (by kernel_rfl) ((eq K).trans h)
end avermentlaw04_Tiny
namespace avermentlaw04_End
/-! ### avermentlaw04_End: function 90 -/
noncomputable def sig : Sig := ⟨(.agg (.cons (.ty yI) (.cons (.ty yI) (.cons (.ty yI) (.ty yI))))), [], (.agg (.cons (.ty yI) (.cons (.ty yI) (.cons (.ty yI) (.ty yI))))), []⟩
noncomputable def RF : RefitBy := noRefit
theorem RF_ok : RefitOk M 0 RF := noRefit_ok
noncomputable def C {α : Type} (K : Nat) : CallsBy α := noCalls
theorem C_ok {α : Type} (K : Nat) : CallsOk (α := α) M (C K) := noCalls_ok
noncomputable def CP {α : Type} (K : Nat) : CutBy α := noCuts
theorem CP_ok {α : Type} (K : Nat)  : CutsOk (α := α) M 0 (CP K) := noCuts_ok
noncomputable def f (K : Nat) : Option (Unit) := some ()
noncomputable def F (K : Nat) : sig.In → Option (Unit) := fun x => f K
noncomputable def cv : sig.In → Unit → sig.Ou := fun x r => ((x.1.1, (x.1.2.1, (x.1.2.2.1, x.1.2.2.2))), ())
noncomputable def LP {α : Type} (K : Nat) : LoopsBy α := noLoops
theorem eq (K : Nat) (a0 : Int) (a1 : Int) (a2 : Int) (a3 : Int) : runF M sig (C K) (eqBy M.P) (LP K) RF (CP K) 20 Tryz.f90 (bodyOf Tryz.f90) ((a0, (a1, (a2, a3))), ()) = (f K).bind fun r => some (cv ((a0, (a1, (a2, a3))), ()) r) := by
  unfold f
  try simp only [el]
  kernel_rfl
theorem rets (K : Nat) : ∀ x y, withCv (F K) cv x = some y → Rets M 90 sig x y := fun x y h => runF_rets (L := 20) (C_ok K) (eqBy_ok _) (by kernel_rfl) RF_ok (CP_ok K) (show LoopsOk M 0 (LP K) (loopsOf (bodyOf Tryz.f90)) from (show loopsOf (bodyOf Tryz.f90) = [] by kernel_rfl) ▸ noLoops_ok) (Nat.le_of_ble_eq_true rfl) Tryz.func90 (by kernel_rfl) ((eq K x.1.1 x.1.2.1 x.1.2.2.1 x.1.2.2.2).trans h)
end avermentlaw04_End
namespace avermentlaw04_Insn
/-! ### avermentlaw04_Insn: function 91 -/
noncomputable def sig : Sig := ⟨(.agg (.cons (.ty yI) (.cons (.ty yI) (.cons (.ty yI) (.cons (.ty yI) (.cons (.ty yI) (.ty (.slice yI)))))))), [], (.agg (.cons (.ty yI) (.cons (.ty yI) (.cons (.ty yI) (.cons (.ty yI) (.cons (.ty yI) (.ty (.slice yI)))))))), []⟩
noncomputable def RF : RefitBy := noRefit
theorem RF_ok : RefitOk M 0 RF := noRefit_ok
noncomputable def C {α : Type} (K : Nat) : CallsBy α := noCalls
theorem C_ok {α : Type} (K : Nat) : CallsOk (α := α) M (C K) := noCalls_ok
noncomputable def CP {α : Type} (K : Nat) : CutBy α := noCuts
theorem CP_ok {α : Type} (K : Nat)  : CutsOk (α := α) M 0 (CP K) := noCuts_ok
noncomputable def f (K : Nat) (a5 : List Int) : Option (List Int) := bif ((0 : Nat) + a5.length).ble (100000 : Nat) then some ([] ++ a5) else none
noncomputable def F (K : Nat) : sig.In → Option (List Int) := fun x => f K x.1.2.2.2.2.2
noncomputable def cv : sig.In → (List Int) → sig.Ou := fun x r => ((x.1.1, (x.1.2.1, (x.1.2.2.1, (x.1.2.2.2.1, (x.1.2.2.2.2.1, r))))), ())
noncomputable def LP {α : Type} (K : Nat) : LoopsBy α := noLoops
theorem eq (K : Nat) (a0 : Int) (a1 : Int) (a2 : Int) (a3 : Int) (a4 : Int) (a5 : List Int) : runF M sig (C K) (eqBy M.P) (LP K) RF (CP K) 20 Tryz.f91 (bodyOf Tryz.f91) ((a0, (a1, (a2, (a3, (a4, a5))))), ()) = (f K a5).bind fun r => some (cv ((a0, (a1, (a2, (a3, (a4, a5))))), ()) r) := by
  unfold f
  try simp only [el]
  kernel_rfl
theorem rets (K : Nat) : ∀ x y, withCv (F K) cv x = some y → Rets M 91 sig x y := fun x y h => runF_rets (L := 20) (C_ok K) (eqBy_ok _) (by kernel_rfl) RF_ok (CP_ok K) (show LoopsOk M 0 (LP K) (loopsOf (bodyOf Tryz.f91)) from (show loopsOf (bodyOf Tryz.f91) = [] by kernel_rfl) ▸ noLoops_ok) (Nat.le_of_ble_eq_true rfl) Tryz.func91 (by kernel_rfl) ((eq K x.1.1 x.1.2.1 x.1.2.2.1 x.1.2.2.2.1 x.1.2.2.2.2.1 x.1.2.2.2.2.2).trans h)
end avermentlaw04_Insn
namespace avermentlaw04_Func
/-! ### avermentlaw04_Func: function 37 -/
noncomputable def sig : Sig := ⟨(.agg (.cons (.ty .str) (.cons (.ty yI) (.cons (.ty yI) (.ty (.slice yBlock)))))), [], (.agg (.cons (.ty .str) (.cons (.ty yI) (.cons (.ty yI) (.ty (.slice yBlock)))))), []⟩
noncomputable def RF : RefitBy := (rfPut 0 62 10 ⟨[1, 2, 3, 4, 5], (.cons (.ptr 0 0) (.cons (.ptr 1 0) (.cons (.ptr 2 0) (.cons (.ty yI) (.ptr 3 0))))), [.cells 107 0 (.cons (.ty .str) (.cons (.ty yI) (.cons (.ty yI) (.ty (.slice yBlock))))), .cells 47 0 (.cons (.ty .str) (.cons (.ty yI) (.cons (.ty yI) (.own 4)))), .cells 47 0 (.cons (.ty .str) (.cons (.ty yI) (.cons (.ty yI) (.own 5)))), .cells 91 0 (.cons (.ty (.slice yInsn)) (.cons (.ty yI) (.cons (.ty yI) (.cons (.ty yI) (.ty yI))))), .list 91 yBlock [], .list 91 yBlock []]⟩ noRefit)
theorem RF_ok : RefitOk M 0 RF := rfPut_ok (Nat.le_of_ble_eq_true rfl) (noRefit_ok)
noncomputable def C {α : Type} (K : Nat) : CallsBy α := (entryD 90 avermentlaw04_End.sig (avermentlaw04_End.F K) avermentlaw04_End.cv (entryD 91 avermentlaw04_Insn.sig (avermentlaw04_Insn.F K) avermentlaw04_Insn.cv noCalls))
theorem C_ok {α : Type} (K : Nat) : CallsOk (α := α) M (C K) := (entryD_ok (entryD_ok noCalls_ok (by rfl) Tryz.func91 (by kernel_rfl) rfl (avermentlaw04_Insn.rets K)) (by rfl) Tryz.func90 (by kernel_rfl) rfl (avermentlaw04_End.rets K))
noncomputable def CP {α : Type} (K : Nat) : CutBy α := noCuts
theorem CP_ok {α : Type} (K : Nat)  : CutsOk (α := α) M 0 (CP K) := noCuts_ok
noncomputable def l1.h : SSh := ⟨[1, 2, 3, 4, 5, 6], (.cons (.ptr 0 0) (.cons (.ptr 1 0) (.cons (.ptr 2 0) (.cons (.ty yI) (.cons (.ptr 3 0) (.ty yI)))))), [.cells 107 0 (.cons (.ty .str) (.cons (.ty yI) (.cons (.ty yI) (.ty (.slice yBlock))))), .cells 47 0 (.cons (.ty .str) (.cons (.ty yI) (.cons (.ty yI) (.own 4)))), .cells 47 0 (.cons (.ty .str) (.cons (.ty yI) (.cons (.ty yI) (.own 5)))), .cells 91 0 (.cons (.own 6) (.cons (.ty yI) (.cons (.ty yI) (.cons (.ty yI) (.ty yI))))), .list 91 yBlock [], .list 91 yBlock [], .list 144 yInsn []]⟩
noncomputable def l1.x : SSh := ⟨[1, 2, 3, 4, 5], (.cons (.ptr 0 0) (.cons (.ptr 1 0) (.cons (.ptr 2 0) (.cons (.ty yI) (.ptr 3 0))))), [.cells 107 0 (.cons (.ty .str) (.cons (.ty yI) (.cons (.ty yI) (.ty (.slice yBlock))))), .cells 47 0 (.cons (.ty .str) (.cons (.ty yI) (.cons (.ty yI) (.own 4)))), .cells 47 0 (.cons (.ty .str) (.cons (.ty yI) (.cons (.ty yI) (.own 5)))), .cells 91 0 (.cons (.own 6) (.cons (.ty yI) (.cons (.ty yI) (.cons (.ty yI) (.ty yI))))), .list 91 yBlock [], .list 91 yBlock [], .list 144 yInsn []]⟩
noncomputable def l1.cx : l1.h.I → (List LInsn) → l1.x.I := fun x r => (((), ((), ((), (x.1.2.2.2.1, ())))), ((x.2.1.1, (x.2.1.2.1, (x.2.1.2.2.1, x.2.1.2.2.2))), ((x.2.2.1.1, (x.2.2.1.2.1, (x.2.2.1.2.2.1, ()))), ((x.2.2.2.1.1, (x.2.2.2.1.2.1, (x.2.2.2.1.2.2.1, ()))), (((), (x.2.2.2.2.1.2.1, (x.2.2.2.2.1.2.2.1, (x.2.2.2.2.1.2.2.2.1, x.2.2.2.2.1.2.2.2.2)))), (x.2.2.2.2.2.1, (x.2.2.2.2.2.2.1, (r, ()))))))))
noncomputable def l1.f (K : Nat) : Nat → Int → Int → List LBlock → List LInsn → Option (List LInsn)
  | 0, _, _, _, _ => none
  | k + 1, a0, a1, a5, a18 => bif decide ((0 : Int) ≤ a0) && true then a5[a0.toNat]?.bind fun t => bif decide (a1 < (↑(List.length t.1) : Int)) then bif decide ((0 : Int) ≤ a0) && true then a5[a0.toNat]?.bind fun t => bif decide ((0 : Int) ≤ a1) && true then t.1[a1.toNat]?.bind fun t => (avermentlaw04_Insn.f K t.2.2.2.2.2).bind fun t_1 => bif (a18.length + [(t.1, t.2.1, t.2.2.1, t.2.2.2.1, t.2.2.2.2.1, t_1)].length).ble (100000 : Nat) then l1.f K k a0 (IntKind.i64.wrap (a1 + (1 : Int))) a5 (a18 ++ [(t.1, t.2.1, t.2.2.1, t.2.2.2.1, t.2.2.2.2.1, t_1)]) else none else none else none else some a18 else none
noncomputable def l1.F (K : Nat) (k : Nat) : l1.h.I → Option (List LInsn) := fun x => l1.f K k x.1.2.2.2.1 x.1.2.2.2.2.2 x.2.1.2.2.2 x.2.2.2.2.2.2.2.1
noncomputable def l1.lp {α : Type} (K : Nat) : St → Kn α → Option α := lpX 0 62 2 l1.h l1.x (l1.F K K) l1.cx
noncomputable def l1.c : Code := nthLoop Tryz.f37 1
noncomputable def l1.LP {α : Type} (K : Nat) : LoopsBy α := noLoops
theorem l1.eq (K : Nat) (k : Nat) (a0 : Int) (a1 : Int) (a2 : ByteArray) (a3 : Int) (a4 : Int) (a5 : List LBlock) (a6 : ByteArray) (a7 : Int) (a8 : Int) (a9 : ByteArray) (a10 : Int) (a11 : Int) (a12 : Int) (a13 : Int) (a14 : Int) (a15 : Int) (a16 : List LBlock) (a17 : List LBlock) (a18 : List LInsn) : exec M (C K) (eqBy M.P) (l1.LP K) RF (CP K) 20 l1.c (Kl 0 l1.h (withCv (l1.F K k) l1.cx) (backX 0 62 2 l1.x)) (l1.h.enc 62 (((), ((), ((), (a0, ((), a1))))), ((a2, (a3, (a4, a5))), ((a6, (a7, (a8, ()))), ((a9, (a10, (a11, ()))), (((), (a12, (a13, (a14, a15)))), (a16, (a17, (a18, ()))))))))) = (l1.f K (k + 1) a0 a1 a5 a18).bind fun r => some (l1.cx (((), ((), ((), (a0, ((), a1))))), ((a2, (a3, (a4, a5))), ((a6, (a7, (a8, ()))), ((a9, (a10, (a11, ()))), (((), (a12, (a13, (a14, a15)))), (a16, (a17, (a18, ())))))))) r) := by
  rw [l1.f]
  try simp only [el]
  kernel_rfl
theorem l1.leads (K : Nat) : ∀ k x y, withCv (l1.F K k) l1.cx x = some y → Leads M 0 (.loop l1.c) (l1.h.enc 62 x) (outX 62 2 l1.x y).1 (outX 62 2 l1.x y).2 :=
  loopX_sound (C_ok K) (eqBy_ok _) (by kernel_rfl) RF_ok (CP_ok K) (show LoopsOk M 0 (l1.LP K) (loopsOf l1.c) from (show loopsOf l1.c = [] by kernel_rfl) ▸ (noLoops_ok)) (Nat.le_of_ble_eq_true rfl) (Nat.le_of_ble_eq_true rfl) (fun x => rfl) (fun k x => l1.eq K k x.1.2.2.2.1 x.1.2.2.2.2.2 x.2.1.1 x.2.1.2.1 x.2.1.2.2.1 x.2.1.2.2.2 x.2.2.1.1 x.2.2.1.2.1 x.2.2.1.2.2.1 x.2.2.2.1.1 x.2.2.2.1.2.1 x.2.2.2.1.2.2.1 x.2.2.2.2.1.2.1 x.2.2.2.2.1.2.2.1 x.2.2.2.2.1.2.2.2.1 x.2.2.2.2.1.2.2.2.2 x.2.2.2.2.2.1 x.2.2.2.2.2.2.1 x.2.2.2.2.2.2.2.1)
theorem l1.lp_ok {α : Type} (K : Nat) : LoopOk (α := α) M 0 (nthLoop Tryz.f37 1) (l1.lp K) := lpX_ok (Nat.le_of_ble_eq_true rfl) (l1.leads K K)
noncomputable def l0.h : SSh := ⟨[1, 2, 3, 4], (.cons (.ptr 0 0) (.cons (.ptr 1 0) (.cons (.ptr 2 0) (.ty yI)))), [.cells 107 0 (.cons (.ty .str) (.cons (.ty yI) (.cons (.ty yI) (.ty (.slice yBlock))))), .cells 47 0 (.cons (.ty .str) (.cons (.ty yI) (.cons (.ty yI) (.own 3)))), .cells 47 0 (.cons (.ty .str) (.cons (.ty yI) (.cons (.ty yI) (.own 4)))), .list 91 yBlock [], .list 91 yBlock []]⟩
noncomputable def l0.x : SSh := ⟨[2, 3], (.cons (.ptr 0 0) (.ptr 1 0)), [.cells 47 0 (.cons (.ty .str) (.cons (.ty yI) (.cons (.ty yI) (.own 2)))), .cells 47 0 (.cons (.ty .str) (.cons (.ty yI) (.cons (.ty yI) (.own 3)))), .list 91 yBlock [], .list 91 yBlock []]⟩
noncomputable def l0.cx : l0.h.I → (List LBlock) → l0.x.I := fun x r => (((), ()), ((x.2.2.1.1, (x.2.2.1.2.1, (x.2.2.1.2.2.1, ()))), ((x.2.2.2.1.1, (x.2.2.2.1.2.1, (x.2.2.2.1.2.2.1, ()))), (x.2.2.2.2.1, (r, ())))))
noncomputable def l0.f (K : Nat) : Nat → Int → List LBlock → List LBlock → Option (List LBlock)
  | 0, _, _, _ => none
  | k + 1, a0, a4, a12 => bif decide (a0 < (↑a4.length : Int)) then bif decide ((0 : Int) ≤ a0) && true then a4[a0.toNat]?.bind fun t => (avermentlaw04_End.f K).bind fun t_1 => (l1.f K K a0 (0 : Int) a4 []).bind fun t_2 => bif (a12.length + [(t_2, t.2.1, t.2.2.1, t.2.2.2.1, t.2.2.2.2)].length).ble (100000 : Nat) then l0.f K k (IntKind.i64.wrap (a0 + (1 : Int))) a4 (a12 ++ [(t_2, t.2.1, t.2.2.1, t.2.2.2.1, t.2.2.2.2)]) else none else none else some a12
noncomputable def l0.F (K : Nat) (k : Nat) : l0.h.I → Option (List LBlock) := fun x => l0.f K k x.1.2.2.2 x.2.1.2.2.2 x.2.2.2.2.2.1
noncomputable def l0.lp {α : Type} (K : Nat) : St → Kn α → Option α := lpX 0 62 0 l0.h l0.x (l0.F K K) l0.cx
noncomputable def l0.c : Code := nthLoop Tryz.f37 0
noncomputable def l0.LP {α : Type} (K : Nat) : LoopsBy α := (lpPut 7 (l1.lp K) noLoops)
theorem l0.eq (K : Nat) (k : Nat) (a0 : Int) (a1 : ByteArray) (a2 : Int) (a3 : Int) (a4 : List LBlock) (a5 : ByteArray) (a6 : Int) (a7 : Int) (a8 : ByteArray) (a9 : Int) (a10 : Int) (a11 : List LBlock) (a12 : List LBlock) : exec M (C K) (eqBy M.P) (l0.LP K) RF (CP K) 20 l0.c (Kl 0 l0.h (withCv (l0.F K k) l0.cx) (backX 0 62 0 l0.x)) (l0.h.enc 62 (((), ((), ((), a0))), ((a1, (a2, (a3, a4))), ((a5, (a6, (a7, ()))), ((a8, (a9, (a10, ()))), (a11, (a12, ()))))))) = (l0.f K (k + 1) a0 a4 a12).bind fun r => some (l0.cx (((), ((), ((), a0))), ((a1, (a2, (a3, a4))), ((a5, (a6, (a7, ()))), ((a8, (a9, (a10, ()))), (a11, (a12, ())))))) r) := by
  rw [l0.f]
  try simp only [el]
  kernel_rfl
theorem l0.leads (K : Nat) : ∀ k x y, withCv (l0.F K k) l0.cx x = some y → Leads M 0 (.loop l0.c) (l0.h.enc 62 x) (outX 62 0 l0.x y).1 (outX 62 0 l0.x y).2 :=
  loopX_sound (C_ok K) (eqBy_ok _) (by kernel_rfl) RF_ok (CP_ok K) (show LoopsOk M 0 (l0.LP K) (loopsOf l0.c) from (show loopsOf l0.c = [nthLoop Tryz.f37 1] by kernel_rfl) ▸ ((loopsOk_put (key := 7) (by kernel_rfl) (l1.lp_ok K) noLoops_ok (by kernel_rfl)))) (Nat.le_of_ble_eq_true rfl) (Nat.le_of_ble_eq_true rfl) (fun x => rfl) (fun k x => l0.eq K k x.1.2.2.2 x.2.1.1 x.2.1.2.1 x.2.1.2.2.1 x.2.1.2.2.2 x.2.2.1.1 x.2.2.1.2.1 x.2.2.1.2.2.1 x.2.2.2.1.1 x.2.2.2.1.2.1 x.2.2.2.1.2.2.1 x.2.2.2.2.1 x.2.2.2.2.2.1)
theorem l0.lp_ok {α : Type} (K : Nat) : LoopOk (α := α) M 0 (nthLoop Tryz.f37 0) (l0.lp K) := lpX_ok (Nat.le_of_ble_eq_true rfl) (l0.leads K K)
noncomputable def f (K : Nat) (a3 : List LBlock) : Option (List LBlock) := l0.f K K (0 : Int) a3 []
noncomputable def F (K : Nat) : sig.In → Option (List LBlock) := fun x => f K x.1.2.2.2
noncomputable def cv : sig.In → (List LBlock) → sig.Ou := fun x r => ((x.1.1, (x.1.2.1, (x.1.2.2.1, r))), ())
noncomputable def LP {α : Type} (K : Nat) : LoopsBy α := (lpPut 3 (l0.lp K) (lpPut 7 (l1.lp K) noLoops))
theorem eq (K : Nat) (a0 : ByteArray) (a1 : Int) (a2 : Int) (a3 : List LBlock) : runF M sig (C K) (eqBy M.P) (LP K) RF (CP K) 20 Tryz.f37 (bodyOf Tryz.f37) ((a0, (a1, (a2, a3))), ()) = (f K a3).bind fun r => some (cv ((a0, (a1, (a2, a3))), ()) r) := by
  unfold f
  try simp only [el]
  kernel_rfl
theorem rets (K : Nat) : ∀ x y, withCv (F K) cv x = some y → Rets M 37 sig x y := fun x y h => runF_rets (L := 20) (C_ok K) (eqBy_ok _) (by kernel_rfl) RF_ok (CP_ok K) (show LoopsOk M 0 (LP K) (loopsOf (bodyOf Tryz.f37)) from (show loopsOf (bodyOf Tryz.f37) = [nthLoop Tryz.f37 0, nthLoop Tryz.f37 1] by kernel_rfl) ▸ (loopsOk_put (key := 3) (by kernel_rfl) (l0.lp_ok K) (loopsOk_put (key := 7) (by kernel_rfl) (l1.lp_ok K) noLoops_ok (by kernel_rfl)) (by kernel_rfl))) (Nat.le_of_ble_eq_true rfl) Tryz.func37 (by kernel_rfl) ((eq K x.1.1 x.1.2.1 x.1.2.2.1 x.1.2.2.2).trans h)
end avermentlaw04_Func
namespace avermentlaw04_To
/-! ### avermentlaw04_To: function 8 -/
noncomputable def sig : Sig := ⟨(.agg (.cons (.ty (.slice yI)) (.cons (.ty (.slice yFunc)) (.ty (.slice yImport))))), [], (.agg (.cons (.ty (.slice yI)) (.cons (.ty (.slice yFunc)) (.ty (.slice yImport))))), []⟩
noncomputable def RF : RefitBy := noRefit
theorem RF_ok : RefitOk M 0 RF := noRefit_ok
noncomputable def C {α : Type} (K : Nat) : CallsBy α := (entryD 37 avermentlaw04_Func.sig (avermentlaw04_Func.F K) avermentlaw04_Func.cv noCalls)
theorem C_ok {α : Type} (K : Nat) : CallsOk (α := α) M (C K) := (entryD_ok noCalls_ok (by rfl) Tryz.func37 (by kernel_rfl) rfl (avermentlaw04_Func.rets K))
noncomputable def CP {α : Type} (K : Nat) : CutBy α := noCuts
theorem CP_ok {α : Type} (K : Nat)  : CutsOk (α := α) M 0 (CP K) := noCuts_ok
noncomputable def l1.h : SSh := ⟨[1, 2, 3, 5], (.cons (.ptr 0 0) (.cons (.ptr 1 0) (.cons (.ptr 2 0) (.ty yI)))), [.cells 26 0 (.cons (.ty (.slice yI)) (.cons (.ty (.slice yFunc)) (.ty (.slice yImport)))), .cells 35 0 (.cons (.own 3) (.cons (.own 4) (.own 5))), .cells 35 0 (.cons (.own 6) (.cons (.own 7) (.own 8))), .list 2 yI [], .list 47 yFunc [], .list 110 yImport [], .list 2 yI [], .list 47 yFunc [], .list 110 yImport []]⟩
noncomputable def l1.x : SSh := ⟨[2, 3], (.cons (.ptr 0 0) (.ptr 1 0)), [.cells 35 0 (.cons (.own 2) (.cons (.own 3) (.own 4))), .cells 35 0 (.cons (.own 5) (.cons (.own 6) (.own 7))), .list 2 yI [], .list 47 yFunc [], .list 110 yImport [], .list 2 yI [], .list 47 yFunc [], .list 110 yImport []]⟩
noncomputable def l1.cx : l1.h.I → (List LImport) → l1.x.I := fun x r => (((), ()), (((), ((), ())), (((), ((), ())), (x.2.2.2.2.1, (x.2.2.2.2.2.1, (x.2.2.2.2.2.2.1, (x.2.2.2.2.2.2.2.1, (x.2.2.2.2.2.2.2.2.1, (r, ())))))))))
noncomputable def l1.f (K : Nat) : Nat → Int → List LImport → List LImport → Option (List LImport)
  | 0, _, _, _ => none
  | k + 1, a0, a3, a9 => bif decide (a0 < (↑a3.length : Int)) then bif decide ((0 : Int) ≤ a0) && true then a3[a0.toNat]?.bind fun t => bif decide ((0 : Int) ≤ a0) && true then a3[a0.toNat]?.bind fun t_1 => bif (a9.length + [(t.1, t_1.2)].length).ble (100000 : Nat) then l1.f K k (IntKind.i64.wrap (a0 + (1 : Int))) a3 (a9 ++ [(t.1, t_1.2)]) else none else none else none else some a9
noncomputable def l1.F (K : Nat) (k : Nat) : l1.h.I → Option (List LImport) := fun x => l1.f K k x.1.2.2.2 x.2.1.2.2 x.2.2.2.2.2.2.2.2.2.1
noncomputable def l1.lp {α : Type} (K : Nat) : St → Kn α → Option α := lpX 0 55 2 l1.h l1.x (l1.F K K) l1.cx
noncomputable def l1.c : Code := nthLoop Tryz.f8 1
noncomputable def l1.LP {α : Type} (K : Nat) : LoopsBy α := noLoops
theorem l1.eq (K : Nat) (k : Nat) (a0 : Int) (a1 : List Int) (a2 : List LFunc) (a3 : List LImport) (a4 : List Int) (a5 : List LFunc) (a6 : List LImport) (a7 : List Int) (a8 : List LFunc) (a9 : List LImport) : exec M (C K) (eqBy M.P) (l1.LP K) RF (CP K) 20 l1.c (Kl 0 l1.h (withCv (l1.F K k) l1.cx) (backX 0 55 2 l1.x)) (l1.h.enc 55 (((), ((), ((), a0))), ((a1, (a2, a3)), (((), ((), ())), (((), ((), ())), (a4, (a5, (a6, (a7, (a8, (a9, ()))))))))))) = (l1.f K (k + 1) a0 a3 a9).bind fun r => some (l1.cx (((), ((), ((), a0))), ((a1, (a2, a3)), (((), ((), ())), (((), ((), ())), (a4, (a5, (a6, (a7, (a8, (a9, ())))))))))) r) := by
  rw [l1.f]
  try simp only [el]
  kernel_rfl
theorem l1.leads (K : Nat) : ∀ k x y, withCv (l1.F K k) l1.cx x = some y → Leads M 0 (.loop l1.c) (l1.h.enc 55 x) (outX 55 2 l1.x y).1 (outX 55 2 l1.x y).2 :=
  loopX_sound (C_ok K) (eqBy_ok _) (by kernel_rfl) RF_ok (CP_ok K) (show LoopsOk M 0 (l1.LP K) (loopsOf l1.c) from (show loopsOf l1.c = [] by kernel_rfl) ▸ (noLoops_ok)) (Nat.le_of_ble_eq_true rfl) (Nat.le_of_ble_eq_true rfl) (fun x => rfl) (fun k x => l1.eq K k x.1.2.2.2 x.2.1.1 x.2.1.2.1 x.2.1.2.2 x.2.2.2.2.1 x.2.2.2.2.2.1 x.2.2.2.2.2.2.1 x.2.2.2.2.2.2.2.1 x.2.2.2.2.2.2.2.2.1 x.2.2.2.2.2.2.2.2.2.1)
theorem l1.lp_ok {α : Type} (K : Nat) : LoopOk (α := α) M 0 (nthLoop Tryz.f8 1) (l1.lp K) := lpX_ok (Nat.le_of_ble_eq_true rfl) (l1.leads K K)
noncomputable def l0.h : SSh := ⟨[1, 2, 3, 4], (.cons (.ptr 0 0) (.cons (.ptr 1 0) (.cons (.ptr 2 0) (.ty yI)))), [.cells 26 0 (.cons (.ty (.slice yI)) (.cons (.ty (.slice yFunc)) (.ty (.slice yImport)))), .cells 35 0 (.cons (.own 3) (.cons (.own 4) (.own 5))), .cells 35 0 (.cons (.own 6) (.cons (.own 7) (.own 8))), .list 2 yI [], .list 47 yFunc [], .list 110 yImport [], .list 2 yI [], .list 47 yFunc [], .list 110 yImport []]⟩
noncomputable def l0.x : SSh := ⟨[1, 2, 3], (.cons (.ptr 0 0) (.cons (.ptr 1 0) (.ptr 2 0))), [.cells 26 0 (.cons (.ty (.slice yI)) (.cons (.ty (.slice yFunc)) (.ty (.slice yImport)))), .cells 35 0 (.cons (.own 3) (.cons (.own 4) (.own 5))), .cells 35 0 (.cons (.own 6) (.cons (.own 7) (.own 8))), .list 2 yI [], .list 47 yFunc [], .list 110 yImport [], .list 2 yI [], .list 47 yFunc [], .list 110 yImport []]⟩
noncomputable def l0.cx : l0.h.I → (List LFunc) → l0.x.I := fun x r => (((), ((), ())), ((x.2.1.1, (x.2.1.2.1, x.2.1.2.2)), (((), ((), ())), (((), ((), ())), (x.2.2.2.2.1, (x.2.2.2.2.2.1, (x.2.2.2.2.2.2.1, (x.2.2.2.2.2.2.2.1, (r, (x.2.2.2.2.2.2.2.2.2.1, ()))))))))))
noncomputable def l0.f (K : Nat) : Nat → Int → List LFunc → List LFunc → Option (List LFunc)
  | 0, _, _, _ => none
  | k + 1, a0, a2, a8 => bif decide (a0 < (↑a2.length : Int)) then bif decide ((0 : Int) ≤ a0) && true then a2[a0.toNat]?.bind fun t => (avermentlaw04_Func.f K t.2.2.2).bind fun t_1 => bif (a8.length + [(t.1, t.2.1, t.2.2.1, t_1)].length).ble (100000 : Nat) then l0.f K k (IntKind.i64.wrap (a0 + (1 : Int))) a2 (a8 ++ [(t.1, t.2.1, t.2.2.1, t_1)]) else none else none else some a8
noncomputable def l0.F (K : Nat) (k : Nat) : l0.h.I → Option (List LFunc) := fun x => l0.f K k x.1.2.2.2 x.2.1.2.1 x.2.2.2.2.2.2.2.2.1
noncomputable def l0.lp {α : Type} (K : Nat) : St → Kn α → Option α := lpX 0 55 0 l0.h l0.x (l0.F K K) l0.cx
noncomputable def l0.c : Code := nthLoop Tryz.f8 0
noncomputable def l0.LP {α : Type} (K : Nat) : LoopsBy α := noLoops
theorem l0.eq (K : Nat) (k : Nat) (a0 : Int) (a1 : List Int) (a2 : List LFunc) (a3 : List LImport) (a4 : List Int) (a5 : List LFunc) (a6 : List LImport) (a7 : List Int) (a8 : List LFunc) (a9 : List LImport) : exec M (C K) (eqBy M.P) (l0.LP K) RF (CP K) 20 l0.c (Kl 0 l0.h (withCv (l0.F K k) l0.cx) (backX 0 55 0 l0.x)) (l0.h.enc 55 (((), ((), ((), a0))), ((a1, (a2, a3)), (((), ((), ())), (((), ((), ())), (a4, (a5, (a6, (a7, (a8, (a9, ()))))))))))) = (l0.f K (k + 1) a0 a2 a8).bind fun r => some (l0.cx (((), ((), ((), a0))), ((a1, (a2, a3)), (((), ((), ())), (((), ((), ())), (a4, (a5, (a6, (a7, (a8, (a9, ())))))))))) r) := by
  rw [l0.f]
  try simp only [el]
  kernel_rfl
theorem l0.leads (K : Nat) : ∀ k x y, withCv (l0.F K k) l0.cx x = some y → Leads M 0 (.loop l0.c) (l0.h.enc 55 x) (outX 55 0 l0.x y).1 (outX 55 0 l0.x y).2 :=
  loopX_sound (C_ok K) (eqBy_ok _) (by kernel_rfl) RF_ok (CP_ok K) (show LoopsOk M 0 (l0.LP K) (loopsOf l0.c) from (show loopsOf l0.c = [] by kernel_rfl) ▸ (noLoops_ok)) (Nat.le_of_ble_eq_true rfl) (Nat.le_of_ble_eq_true rfl) (fun x => rfl) (fun k x => l0.eq K k x.1.2.2.2 x.2.1.1 x.2.1.2.1 x.2.1.2.2 x.2.2.2.2.1 x.2.2.2.2.2.1 x.2.2.2.2.2.2.1 x.2.2.2.2.2.2.2.1 x.2.2.2.2.2.2.2.2.1 x.2.2.2.2.2.2.2.2.2.1)
theorem l0.lp_ok {α : Type} (K : Nat) : LoopOk (α := α) M 0 (nthLoop Tryz.f8 0) (l0.lp K) := lpX_ok (Nat.le_of_ble_eq_true rfl) (l0.leads K K)
noncomputable def f (K : Nat) (a0 : List Int) (a1 : List LFunc) (a2 : List LImport) : Option (List Int × List LFunc × List LImport) := bif ((0 : Nat) + a0.length).ble (100000 : Nat) then (l0.f K K (0 : Int) a1 []).bind fun t => (l1.f K K (0 : Int) a2 []).bind fun t_1 => some ([] ++ a0, t, t_1) else none
noncomputable def F (K : Nat) : sig.In → Option (List Int × List LFunc × List LImport) := fun x => f K x.1.1 x.1.2.1 x.1.2.2
noncomputable def cv : sig.In → (List Int × List LFunc × List LImport) → sig.Ou := fun x r => ((r.1, (r.2.1, r.2.2)), ())
noncomputable def LP {α : Type} (K : Nat) : LoopsBy α := (lpPut 3 (l0.lp K) (lpPut 7 (l1.lp K) noLoops))
theorem eq (K : Nat) (a0 : List Int) (a1 : List LFunc) (a2 : List LImport) : runF M sig (C K) (eqBy M.P) (LP K) RF (CP K) 20 Tryz.f8 (bodyOf Tryz.f8) ((a0, (a1, a2)), ()) = (f K a0 a1 a2).bind fun r => some (cv ((a0, (a1, a2)), ()) r) := by
  unfold f
  try simp only [el]
  kernel_rfl
theorem rets (K : Nat) : ∀ x y, withCv (F K) cv x = some y → Rets M 8 sig x y := fun x y h => runF_rets (L := 20) (C_ok K) (eqBy_ok _) (by kernel_rfl) RF_ok (CP_ok K) (show LoopsOk M 0 (LP K) (loopsOf (bodyOf Tryz.f8)) from (show loopsOf (bodyOf Tryz.f8) = [nthLoop Tryz.f8 0, nthLoop Tryz.f8 1] by kernel_rfl) ▸ (loopsOk_put (key := 3) (by kernel_rfl) (l0.lp_ok K) (loopsOk_put (key := 7) (by kernel_rfl) (l1.lp_ok K) noLoops_ok (by kernel_rfl)) (by kernel_rfl))) (Nat.le_of_ble_eq_true rfl) Tryz.func8 (by kernel_rfl) ((eq K x.1.1 x.1.2.1 x.1.2.2).trans h)
end avermentlaw04_To
namespace ir_named
/-! ### ir_named: function 138 -/
noncomputable def sig : Sig := ⟨(.ty .str), [], (.ty .bool), []⟩
noncomputable def RF : RefitBy := noRefit
theorem RF_ok : RefitOk M 0 RF := noRefit_ok
noncomputable def C {α : Type} (K : Nat) : CallsBy α := noCalls
theorem C_ok {α : Type} (K : Nat) : CallsOk (α := α) M (C K) := noCalls_ok
noncomputable def CP {α : Type} (K : Nat) : CutBy α := (cpPut 4 (rpCut M bindC [.bool, .bool] [5, 6] (C K) (eqBy M.P)) (cpPut 5 (rpCut M bindC [.bool] [36] (C K) (eqBy M.P)) (cpPut 8 (rpCut M bindC [.bool] [2] (C K) (eqBy M.P)) noCuts)))
theorem CP_ok {α : Type} (K : Nat)  : CutsOk (α := α) M 0 (CP K) := (cpPut_ok (rpCut_ok (C_ok K) (eqBy_ok _) (by kernel_rfl)) (cpPut_ok (rpCut_ok (C_ok K) (eqBy_ok _) (by kernel_rfl)) (cpPut_ok (rpCut_ok (C_ok K) (eqBy_ok _) (by kernel_rfl)) noCuts_ok)))
noncomputable def l0.h : SSh := ⟨[0, 8, 9, 10], (.cons (.ty .str) (.cons (.ty (.slice (.int .u8))) (.cons (.ty yI) (.ty yI)))), []⟩
noncomputable def l0.x : SSh := ⟨[0], (.ty .str), []⟩
noncomputable def l0.r : SSh := ⟨[2], (.ty .bool), []⟩
noncomputable def l0.cx : l0.h.I → Unit → l0.x.I := fun x r => (x.1.1, ())
noncomputable def l0.cr : l0.h.I → Bool → l0.r.I := fun x r => (r, ())
noncomputable def l0.f (K : Nat) : Nat → List Int → Int → Int → Option ((Unit) ⊕ (Bool))
  | 0, _, _, _ => none
  | k + 1, a1, a2, a3 => bif decide (a3 < a2) then bif decide ((0 : Int) ≤ a3) && true then a1[a3.toNat]?.bind fun t => bindC (bif decide (t ≥ (97 : Int)) then bif decide (t ≥ (48 : Int)) then some (decide (t ≤ (122 : Int)), decide (t ≤ (57 : Int))) else some (decide (t ≤ (122 : Int)), false) else bif decide (t ≥ (48 : Int)) then some (false, decide (t ≤ (57 : Int))) else some (false, false)) fun t => bindC (bif !t.1 then bif !t.2 then some true else some (a3 == (0 : Int)) else some false) fun t => bif t then some (Sum.inr false) else l0.f K k a1 a2 (IntKind.i64.wrap (a3 + (1 : Int))) else none else some (Sum.inl ())
noncomputable def l0.F (K : Nat) (k : Nat) : l0.h.I → Option ((Unit) ⊕ (Bool)) := fun x => l0.f K k x.1.2.1 x.1.2.2.1 x.1.2.2.2
noncomputable def l0.lp {α : Type} (K : Nat) : St → Kn α → Option α := lpXRD 0 45 0 l0.h l0.x l0.r (l0.F K K) l0.cx l0.cr
noncomputable def l0.c : Code := nthLoop Tryz.f138 0
noncomputable def l0.LP {α : Type} (K : Nat) : LoopsBy α := noLoops
theorem l0.eq (K : Nat) (k : Nat) (a0 : ByteArray) (a1 : List Int) (a2 : Int) (a3 : Int) : exec M (C K) (eqBy M.P) (l0.LP K) RF (CP K) 20 l0.c (Kl 0 l0.h (withCv (l0.F K k) (smap l0.cx l0.cr)) (backXR 0 0 l0.x l0.r)) (l0.h.enc 45 ((a0, (a1, (a2, a3))), ())) = (l0.f K (k + 1) a1 a2 a3).bind fun r => some ((smap l0.cx l0.cr) ((a0, (a1, (a2, a3))), ()) r) := by
  rw [l0.f]
  try simp only [el]
  kernel_rfl
theorem l0.leads (K : Nat) : ∀ k x y, withCv (l0.F K k) (smap l0.cx l0.cr) x = some y → Leads M 0 (.loop l0.c) (l0.h.enc 45 x) (outXR 45 0 l0.x l0.r y).1 (outXR 45 0 l0.x l0.r y).2 :=
  loopXR_sound (C_ok K) (eqBy_ok _) (by kernel_rfl) RF_ok (CP_ok K) (show LoopsOk M 0 (l0.LP K) (loopsOf l0.c) from (show loopsOf l0.c = [] by kernel_rfl) ▸ (noLoops_ok)) (Nat.le_of_ble_eq_true rfl) (Nat.le_of_ble_eq_true rfl) (Nat.le_of_ble_eq_true rfl) (fun x => rfl) (fun k x => l0.eq K k x.1.1 x.1.2.1 x.1.2.2.1 x.1.2.2.2)
theorem l0.lp_ok {α : Type} (K : Nat) : LoopOk (α := α) M 0 (nthLoop Tryz.f138 0) (l0.lp K) := lpXRD_ok (Nat.le_of_ble_eq_true rfl) (l0.leads K K)
noncomputable def f (K : Nat) (a0 : ByteArray) : Option (Bool) := bif a0.size.ble (100000 : Nat) then (l0.f K K (bytesOf a0) (↑(bytesOf a0).length : Int) (0 : Int)).bind fun t => Sum.elim (fun t => bindC (bif !a0.toList == (ByteArray.mk #[]).toList then some (decide ((↑a0.size : Int) ≤ (12 : Int))) else some false) fun t => some t) (fun t => some t) t else none
noncomputable def F (K : Nat) : sig.In → Option (Bool) := fun x => f K x.1
noncomputable def cv : sig.In → Bool → sig.Ou := fun x r => (r, ())
noncomputable def LP {α : Type} (K : Nat) : LoopsBy α := (lpPut 2 (l0.lp K) noLoops)
theorem eq (K : Nat) (a0 : ByteArray) : runF M sig (C K) (eqBy M.P) (LP K) RF (CP K) 20 Tryz.f138 (bodyOf Tryz.f138) (a0, ()) = (f K a0).bind fun r => some (cv (a0, ()) r) := by
  unfold f
  try simp only [el]
  kernel_rfl
theorem rets (K : Nat) : ∀ x y, withCv (F K) cv x = some y → Rets M 138 sig x y := fun x y h => runF_rets (L := 20) (C_ok K) (eqBy_ok _) (by kernel_rfl) RF_ok (CP_ok K) (show LoopsOk M 0 (LP K) (loopsOf (bodyOf Tryz.f138)) from (show loopsOf (bodyOf Tryz.f138) = [nthLoop Tryz.f138 0] by kernel_rfl) ▸ (loopsOk_put (key := 2) (by kernel_rfl) (l0.lp_ok K) noLoops_ok (by kernel_rfl))) (Nat.le_of_ble_eq_true rfl) Tryz.func138 (by kernel_rfl) ((eq K x.1).trans h)
end ir_named
namespace ir_within
/-! ### ir_within: function 73 -/
noncomputable def sig : Sig := ⟨(.cons (.ty yI) (.ty yI)), [], (.ty .bool), []⟩
noncomputable def RF : RefitBy := noRefit
theorem RF_ok : RefitOk M 0 RF := noRefit_ok
noncomputable def C {α : Type} (K : Nat) : CallsBy α := noCalls
theorem C_ok {α : Type} (K : Nat) : CallsOk (α := α) M (C K) := noCalls_ok
noncomputable def CP {α : Type} (K : Nat) : CutBy α := (cpPut 1 (rpCut M bindC [.bool] [4] (C K) (eqBy M.P)) noCuts)
theorem CP_ok {α : Type} (K : Nat)  : CutsOk (α := α) M 0 (CP K) := (cpPut_ok (rpCut_ok (C_ok K) (eqBy_ok _) (by kernel_rfl)) noCuts_ok)
noncomputable def f (K : Nat) (a0 : Int) (a1 : Int) : Option (Bool) := bindC (bif decide (a0 ≥ (0 : Int)) then some (decide (a0 < a1)) else some false) fun t => some t
noncomputable def F (K : Nat) : sig.In → Option (Bool) := fun x => f K x.1.1 x.1.2
noncomputable def cv : sig.In → Bool → sig.Ou := fun x r => (r, ())
noncomputable def LP {α : Type} (K : Nat) : LoopsBy α := noLoops
theorem eq (K : Nat) (a0 : Int) (a1 : Int) : runF M sig (C K) (eqBy M.P) (LP K) RF (CP K) 20 Tryz.f73 (bodyOf Tryz.f73) ((a0, a1), ()) = (f K a0 a1).bind fun r => some (cv ((a0, a1), ()) r) := by
  unfold f
  try simp only [el]
  kernel_rfl
theorem rets (K : Nat) : ∀ x y, withCv (F K) cv x = some y → Rets M 73 sig x y := fun x y h => runF_rets (L := 20) (C_ok K) (eqBy_ok _) (by kernel_rfl) RF_ok (CP_ok K) (show LoopsOk M 0 (LP K) (loopsOf (bodyOf Tryz.f73)) from (show loopsOf (bodyOf Tryz.f73) = [] by kernel_rfl) ▸ noLoops_ok) (Nat.le_of_ble_eq_true rfl) Tryz.func73 (by kernel_rfl) ((eq K x.1.1 x.1.2).trans h)
end ir_within
namespace ir_Name
/-! ### ir_Name: function 161 -/
noncomputable def sig : Sig := ⟨(.cons (.agg (.cons (.ty (.slice yI)) (.cons (.ty (.slice yFunc)) (.ty (.slice yImport))))) (.ty yI)), [], (.ty .str), []⟩
noncomputable def RF : RefitBy := noRefit
theorem RF_ok : RefitOk M 0 RF := noRefit_ok
noncomputable def C {α : Type} (K : Nat) : CallsBy α := (entryD 73 ir_within.sig (ir_within.F K) ir_within.cv noCalls)
theorem C_ok {α : Type} (K : Nat) : CallsOk (α := α) M (C K) := (entryD_ok noCalls_ok (by rfl) Tryz.func73 (by kernel_rfl) rfl (ir_within.rets K))
noncomputable def CP {α : Type} (K : Nat) : CutBy α := noCuts
theorem CP_ok {α : Type} (K : Nat)  : CutsOk (α := α) M 0 (CP K) := noCuts_ok
noncomputable def f (K : Nat) (a1 : List LFunc) (a2 : List LImport) (a3 : Int) : Option (ByteArray) := (ir_within.f K a3 (↑a1.length : Int)).bind fun t => bif t then bif decide ((0 : Int) ≤ a3) && true then a1[a3.toNat]?.bind fun t => some t.1 else none else (ir_within.f K (IntKind.i64.wrap (a3 - (↑a1.length : Int))) (↑a2.length : Int)).bind fun t => bif t then bif decide ((0 : Int) ≤ IntKind.i64.wrap (a3 - (↑a1.length : Int))) && true then a2[(IntKind.i64.wrap (a3 - (↑a1.length : Int))).toNat]?.bind fun t => some t.1 else none else some (ByteArray.mk #[])
noncomputable def F (K : Nat) : sig.In → Option (ByteArray) := fun x => f K x.1.1.2.1 x.1.1.2.2 x.1.2
noncomputable def cv : sig.In → ByteArray → sig.Ou := fun x r => (r, ())
noncomputable def LP {α : Type} (K : Nat) : LoopsBy α := noLoops
theorem eq (K : Nat) (a0 : List Int) (a1 : List LFunc) (a2 : List LImport) (a3 : Int) : runF M sig (C K) (eqBy M.P) (LP K) RF (CP K) 20 Tryz.f161 (bodyOf Tryz.f161) (((a0, (a1, a2)), a3), ()) = (f K a1 a2 a3).bind fun r => some (cv (((a0, (a1, a2)), a3), ()) r) := by
  unfold f
  try simp only [el]
  kernel_rfl
theorem rets (K : Nat) : ∀ x y, withCv (F K) cv x = some y → Rets M 161 sig x y := fun x y h => runF_rets (L := 20) (C_ok K) (eqBy_ok _) (by kernel_rfl) RF_ok (CP_ok K) (show LoopsOk M 0 (LP K) (loopsOf (bodyOf Tryz.f161)) from (show loopsOf (bodyOf Tryz.f161) = [] by kernel_rfl) ▸ noLoops_ok) (Nat.le_of_ble_eq_true rfl) Tryz.func161 (by kernel_rfl) ((eq K x.1.1.1 x.1.1.2.1 x.1.1.2.2 x.1.2).trans h)
end ir_Name
namespace ir_Find
/-! ### ir_Find: function 139 -/
noncomputable def sig : Sig := ⟨(.cons (.agg (.cons (.ty (.slice yI)) (.cons (.ty (.slice yFunc)) (.ty (.slice yImport))))) (.ty .str)), [], (.ty yI), []⟩
noncomputable def RF : RefitBy := noRefit
theorem RF_ok : RefitOk M 0 RF := noRefit_ok
noncomputable def C {α : Type} (K : Nat) : CallsBy α := (entryD 161 ir_Name.sig (ir_Name.F K) ir_Name.cv noCalls)
theorem C_ok {α : Type} (K : Nat) : CallsOk (α := α) M (C K) := (entryD_ok noCalls_ok (by rfl) Tryz.func161 (by kernel_rfl) rfl (ir_Name.rets K))
noncomputable def CP {α : Type} (K : Nat) : CutBy α := noCuts
theorem CP_ok {α : Type} (K : Nat)  : CutsOk (α := α) M 0 (CP K) := noCuts_ok
noncomputable def l0.h : SSh := ⟨[1, 2, 12, 13], (.cons (.ty .str) (.cons (.ptr 0 0) (.cons (.ty yI) (.ty yI)))), [.cells 35 0 (.cons (.ty (.slice yI)) (.cons (.ty (.slice yFunc)) (.ty (.slice yImport))))]⟩
noncomputable def l0.x : SSh := ⟨[], .unit, []⟩
noncomputable def l0.r : SSh := ⟨[4], (.ty yI), []⟩
noncomputable def l0.cx : l0.h.I → Unit → l0.x.I := fun x r => ((), ())
noncomputable def l0.cr : l0.h.I → Int → l0.r.I := fun x r => (r, ())
noncomputable def l0.f (K : Nat) : Nat → ByteArray → Int → Int → List LFunc → List LImport → Option ((Unit) ⊕ (Int))
  | 0, _, _, _, _, _ => none
  | k + 1, a0, a1, a2, a4, a5 => bif decide (a2 < a1) then (ir_Name.f K a4 a5 a2).bind fun t => bif t.toList == a0.toList then some (Sum.inr a2) else l0.f K k a0 a1 (IntKind.i64.wrap (a2 + (1 : Int))) a4 a5 else some (Sum.inl ())
noncomputable def l0.F (K : Nat) (k : Nat) : l0.h.I → Option ((Unit) ⊕ (Int)) := fun x => l0.f K k x.1.1 x.1.2.2.1 x.1.2.2.2 x.2.1.2.1 x.2.1.2.2
noncomputable def l0.lp {α : Type} (K : Nat) : St → Kn α → Option α := lpXRD 0 23 0 l0.h l0.x l0.r (l0.F K K) l0.cx l0.cr
noncomputable def l0.c : Code := nthLoop Tryz.f139 0
noncomputable def l0.LP {α : Type} (K : Nat) : LoopsBy α := noLoops
theorem l0.eq (K : Nat) (k : Nat) (a0 : ByteArray) (a1 : Int) (a2 : Int) (a3 : List Int) (a4 : List LFunc) (a5 : List LImport) : exec M (C K) (eqBy M.P) (l0.LP K) RF (CP K) 20 l0.c (Kl 0 l0.h (withCv (l0.F K k) (smap l0.cx l0.cr)) (backXR 0 0 l0.x l0.r)) (l0.h.enc 23 ((a0, ((), (a1, a2))), ((a3, (a4, a5)), ()))) = (l0.f K (k + 1) a0 a1 a2 a4 a5).bind fun r => some ((smap l0.cx l0.cr) ((a0, ((), (a1, a2))), ((a3, (a4, a5)), ())) r) := by
  rw [l0.f]
  try simp only [el]
  kernel_rfl
theorem l0.leads (K : Nat) : ∀ k x y, withCv (l0.F K k) (smap l0.cx l0.cr) x = some y → Leads M 0 (.loop l0.c) (l0.h.enc 23 x) (outXR 23 0 l0.x l0.r y).1 (outXR 23 0 l0.x l0.r y).2 :=
  loopXR_sound (C_ok K) (eqBy_ok _) (by kernel_rfl) RF_ok (CP_ok K) (show LoopsOk M 0 (l0.LP K) (loopsOf l0.c) from (show loopsOf l0.c = [] by kernel_rfl) ▸ (noLoops_ok)) (Nat.le_of_ble_eq_true rfl) (Nat.le_of_ble_eq_true rfl) (Nat.le_of_ble_eq_true rfl) (fun x => rfl) (fun k x => l0.eq K k x.1.1 x.1.2.2.1 x.1.2.2.2 x.2.1.1 x.2.1.2.1 x.2.1.2.2)
theorem l0.lp_ok {α : Type} (K : Nat) : LoopOk (α := α) M 0 (nthLoop Tryz.f139 0) (l0.lp K) := lpXRD_ok (Nat.le_of_ble_eq_true rfl) (l0.leads K K)
noncomputable def f (K : Nat) (a1 : List LFunc) (a2 : List LImport) (a3 : ByteArray) : Option (Int) := (l0.f K K a3 (IntKind.i64.wrap ((↑a1.length : Int) + (↑a2.length : Int))) (0 : Int) a1 a2).bind fun t => Sum.elim (fun t => some (-1 : Int)) (fun t => some t) t
noncomputable def F (K : Nat) : sig.In → Option (Int) := fun x => f K x.1.1.2.1 x.1.1.2.2 x.1.2
noncomputable def cv : sig.In → Int → sig.Ou := fun x r => (r, ())
noncomputable def LP {α : Type} (K : Nat) : LoopsBy α := (lpPut 2 (l0.lp K) noLoops)
theorem eq (K : Nat) (a0 : List Int) (a1 : List LFunc) (a2 : List LImport) (a3 : ByteArray) : runF M sig (C K) (eqBy M.P) (LP K) RF (CP K) 20 Tryz.f139 (bodyOf Tryz.f139) (((a0, (a1, a2)), a3), ()) = (f K a1 a2 a3).bind fun r => some (cv (((a0, (a1, a2)), a3), ()) r) := by
  unfold f
  try simp only [el]
  kernel_rfl
theorem rets (K : Nat) : ∀ x y, withCv (F K) cv x = some y → Rets M 139 sig x y := fun x y h => runF_rets (L := 20) (C_ok K) (eqBy_ok _) (by kernel_rfl) RF_ok (CP_ok K) (show LoopsOk M 0 (LP K) (loopsOf (bodyOf Tryz.f139)) from (show loopsOf (bodyOf Tryz.f139) = [nthLoop Tryz.f139 0] by kernel_rfl) ▸ (loopsOk_put (key := 2) (by kernel_rfl) (l0.lp_ok K) noLoops_ok (by kernel_rfl))) (Nat.le_of_ble_eq_true rfl) Tryz.func139 (by kernel_rfl) ((eq K x.1.1.1 x.1.1.2.1 x.1.1.2.2 x.1.2).trans h)
end ir_Find
namespace ir_Module_first
/-! ### ir_Module_first: function 136 -/
noncomputable def sig : Sig := ⟨(.cons (.agg (.cons (.ty (.slice yI)) (.cons (.ty (.slice yFunc)) (.ty (.slice yImport))))) (.ty yI)), [], (.ty yI), []⟩
noncomputable def RF : RefitBy := noRefit
theorem RF_ok : RefitOk M 0 RF := noRefit_ok
noncomputable def C {α : Type} (K : Nat) : CallsBy α := (entryD 138 ir_named.sig (ir_named.F K) ir_named.cv (entryD 139 ir_Find.sig (ir_Find.F K) ir_Find.cv (entryD 73 ir_within.sig (ir_within.F K) ir_within.cv noCalls)))
theorem C_ok {α : Type} (K : Nat) : CallsOk (α := α) M (C K) := (entryD_ok (entryD_ok (entryD_ok noCalls_ok (by rfl) Tryz.func73 (by kernel_rfl) rfl (ir_within.rets K)) (by rfl) Tryz.func139 (by kernel_rfl) rfl (ir_Find.rets K)) (by rfl) Tryz.func138 (by kernel_rfl) rfl (ir_named.rets K))
noncomputable def CP {α : Type} (K : Nat) : CutBy α := (cpPut 8 (rpCut M bindC [.bool] [28] (C K) (eqBy M.P)) (cpPut 10 (rpCut M bindC [.bool] [40] (C K) (eqBy M.P)) noCuts))
theorem CP_ok {α : Type} (K : Nat)  : CutsOk (α := α) M 0 (CP K) := (cpPut_ok (rpCut_ok (C_ok K) (eqBy_ok _) (by kernel_rfl)) (cpPut_ok (rpCut_ok (C_ok K) (eqBy_ok _) (by kernel_rfl)) noCuts_ok))
noncomputable def f (K : Nat) (a1 : List LFunc) (a2 : List LImport) (a3 : Int) : Option (Int) := bif decide ((0 : Int) ≤ a3) && true then a1[a3.toNat]?.bind fun t => (ir_named.f K t.1).bind fun t_1 => bif !t_1 then some (6 : Int) else (ir_Find.f K a1 a2 t.1).bind fun t_2 => bif decide (t_2 < a3) then some (7 : Int) else (ir_within.f K t.2.1 (5 : Int)).bind fun t_3 => bif !t_3 then some (10 : Int) else bindC (bif decide (t.2.2.1 < if (1 : Int) > t.2.1 then (1 : Int) else t.2.1) then some true else some (decide (t.2.2.1 > (8 : Int)))) fun t_4 => bif t_4 then some (9 : Int) else bindC (bif decide ((↑(List.length t.2.2.2) : Int) < (1 : Int)) then some true else some (decide ((↑(List.length t.2.2.2) : Int) > (12 : Int)))) fun t => bif t then some (11 : Int) else some (0 : Int) else none
noncomputable def F (K : Nat) : sig.In → Option (Int) := fun x => f K x.1.1.2.1 x.1.1.2.2 x.1.2
noncomputable def cv : sig.In → Int → sig.Ou := fun x r => (r, ())
noncomputable def LP {α : Type} (K : Nat) : LoopsBy α := noLoops
theorem eq (K : Nat) (a0 : List Int) (a1 : List LFunc) (a2 : List LImport) (a3 : Int) : runF M sig (C K) (eqBy M.P) (LP K) RF (CP K) 20 Tryz.f136 (bodyOf Tryz.f136) (((a0, (a1, a2)), a3), ()) = (f K a1 a2 a3).bind fun r => some (cv (((a0, (a1, a2)), a3), ()) r) := by
  unfold f
  try simp only [el]
  kernel_rfl
theorem rets (K : Nat) : ∀ x y, withCv (F K) cv x = some y → Rets M 136 sig x y := fun x y h => runF_rets (L := 20) (C_ok K) (eqBy_ok _) (by kernel_rfl) RF_ok (CP_ok K) (show LoopsOk M 0 (LP K) (loopsOf (bodyOf Tryz.f136)) from (show loopsOf (bodyOf Tryz.f136) = [] by kernel_rfl) ▸ noLoops_ok) (Nat.le_of_ble_eq_true rfl) Tryz.func136 (by kernel_rfl) ((eq K x.1.1.1 x.1.1.2.1 x.1.1.2.2 x.1.2).trans h)
end ir_Module_first
namespace ir_Insn_fields
/-! ### ir_Insn_fields: function 154 -/
noncomputable def sig : Sig := ⟨(.agg (.cons (.ty yI) (.cons (.ty yI) (.cons (.ty yI) (.cons (.ty yI) (.cons (.ty yI) (.ty (.slice yI)))))))), [], (.cons (.agg (.cons (.ty .bool) (.cons (.ty .bool) (.cons (.ty .bool) (.ty .bool))))) (.ty .bool)), []⟩
noncomputable def RF : RefitBy := noRefit
theorem RF_ok : RefitOk M 0 RF := noRefit_ok
noncomputable def C {α : Type} (K : Nat) : CallsBy α := noCalls
theorem C_ok {α : Type} (K : Nat) : CallsOk (α := α) M (C K) := noCalls_ok
noncomputable def CP {α : Type} (K : Nat) : CutBy α := noCuts
theorem CP_ok {α : Type} (K : Nat)  : CutsOk (α := α) M 0 (CP K) := noCuts_ok
noncomputable def f (K : Nat) (a0 : Int) : Option (Bool × Bool × Bool × Bool × Bool) := bif a0 == (4 : Int) then some (true, true, true, false, true) else bif a0 == (5 : Int) then some (true, true, true, false, true) else bif a0 == (6 : Int) then some (true, true, true, false, true) else bif a0 == (7 : Int) then some (true, true, true, false, true) else bif a0 == (8 : Int) then some (true, true, true, false, true) else bif a0 == (9 : Int) then some (true, true, true, false, true) else bif a0 == (10 : Int) then some (true, true, true, false, true) else bif a0 == (11 : Int) then some (true, true, true, false, true) else bif a0 == (12 : Int) then some (true, true, true, false, true) else bif a0 == (2 : Int) then some (true, true, false, false, true) else bif a0 == (3 : Int) then some (true, true, false, false, true) else bif a0 == (1 : Int) then some (true, false, false, false, true) else bif a0 == (15 : Int) then some (true, false, false, false, true) else bif a0 == (13 : Int) then some (true, false, false, true, true) else bif a0 == (17 : Int) then some (true, false, false, true, true) else bif a0 == (14 : Int) then some (false, true, false, true, true) else bif a0 == (16 : Int) then some (false, true, false, false, true) else some (false, false, false, false, false)
noncomputable def F (K : Nat) : sig.In → Option (Bool × Bool × Bool × Bool × Bool) := fun x => f K x.1.1
noncomputable def cv : sig.In → (Bool × Bool × Bool × Bool × Bool) → sig.Ou := fun x r => (((r.1, (r.2.1, (r.2.2.1, r.2.2.2.1))), r.2.2.2.2), ())
noncomputable def LP {α : Type} (K : Nat) : LoopsBy α := noLoops
theorem eq (K : Nat) (a0 : Int) (a1 : Int) (a2 : Int) (a3 : Int) (a4 : Int) (a5 : List Int) : runF M sig (C K) (eqBy M.P) (LP K) RF (CP K) 20 Tryz.f154 (bodyOf Tryz.f154) ((a0, (a1, (a2, (a3, (a4, a5))))), ()) = (f K a0).bind fun r => some (cv ((a0, (a1, (a2, (a3, (a4, a5))))), ()) r) := by
  unfold f
  try simp only [el]
  kernel_rfl
theorem rets (K : Nat) : ∀ x y, withCv (F K) cv x = some y → Rets M 154 sig x y := fun x y h => runF_rets (L := 20) (C_ok K) (eqBy_ok _) (by kernel_rfl) RF_ok (CP_ok K) (show LoopsOk M 0 (LP K) (loopsOf (bodyOf Tryz.f154)) from (show loopsOf (bodyOf Tryz.f154) = [] by kernel_rfl) ▸ noLoops_ok) (Nat.le_of_ble_eq_true rfl) Tryz.func154 (by kernel_rfl) ((eq K x.1.1 x.1.2.1 x.1.2.2.1 x.1.2.2.2.1 x.1.2.2.2.2.1 x.1.2.2.2.2.2).trans h)
end ir_Insn_fields
namespace ir_Insn_spare
/-! ### ir_Insn_spare: function 189 -/
noncomputable def sig : Sig := ⟨(.cons (.agg (.cons (.ty yI) (.cons (.ty yI) (.cons (.ty yI) (.cons (.ty yI) (.cons (.ty yI) (.ty (.slice yI)))))))) (.agg (.cons (.ty .bool) (.cons (.ty .bool) (.cons (.ty .bool) (.ty .bool)))))), [], (.ty .bool), []⟩
noncomputable def RF : RefitBy := noRefit
theorem RF_ok : RefitOk M 0 RF := noRefit_ok
noncomputable def C {α : Type} (K : Nat) : CallsBy α := noCalls
theorem C_ok {α : Type} (K : Nat) : CallsOk (α := α) M (C K) := noCalls_ok
noncomputable def CP {α : Type} (K : Nat) : CutBy α := (cpPut 1 (rpCut M bindC [.bool] [4] (C K) (eqBy M.P)) noCuts)
theorem CP_ok {α : Type} (K : Nat)  : CutsOk (α := α) M 0 (CP K) := (cpPut_ok (rpCut_ok (C_ok K) (eqBy_ok _) (by kernel_rfl)) noCuts_ok)
noncomputable def f (K : Nat) (a0 : Int) (a1 : Int) (a2 : Int) (a3 : Int) (a4 : Int) (a5 : List Int) (a6 : Bool) (a7 : Bool) (a8 : Bool) (a9 : Bool) : Option (Bool) := bindC (bif !a6 then bif a1 != (0 : Int) then some true else bif !a7 then bif a2 != (0 : Int) then some true else bif !a8 then bif !a9 then bif a3 != (0 : Int) then some true else bif a0 != (1 : Int) then bif a4 != (0 : Int) then some true else bif a0 != (17 : Int) then some (decide ((↑a5.length : Int) > (0 : Int))) else some false else bif a0 != (17 : Int) then some (decide ((↑a5.length : Int) > (0 : Int))) else some false else bif a0 != (1 : Int) then bif a4 != (0 : Int) then some true else bif a0 != (17 : Int) then some (decide ((↑a5.length : Int) > (0 : Int))) else some false else bif a0 != (17 : Int) then some (decide ((↑a5.length : Int) > (0 : Int))) else some false else bif a0 != (1 : Int) then bif a4 != (0 : Int) then some true else bif a0 != (17 : Int) then some (decide ((↑a5.length : Int) > (0 : Int))) else some false else bif a0 != (17 : Int) then some (decide ((↑a5.length : Int) > (0 : Int))) else some false else bif !a8 then bif !a9 then bif a3 != (0 : Int) then some true else bif a0 != (1 : Int) then bif a4 != (0 : Int) then some true else bif a0 != (17 : Int) then some (decide ((↑a5.length : Int) > (0 : Int))) else some false else bif a0 != (17 : Int) then some (decide ((↑a5.length : Int) > (0 : Int))) else some false else bif a0 != (1 : Int) then bif a4 != (0 : Int) then some true else bif a0 != (17 : Int) then some (decide ((↑a5.length : Int) > (0 : Int))) else some false else bif a0 != (17 : Int) then some (decide ((↑a5.length : Int) > (0 : Int))) else some false else bif a0 != (1 : Int) then bif a4 != (0 : Int) then some true else bif a0 != (17 : Int) then some (decide ((↑a5.length : Int) > (0 : Int))) else some false else bif a0 != (17 : Int) then some (decide ((↑a5.length : Int) > (0 : Int))) else some false else bif !a7 then bif a2 != (0 : Int) then some true else bif !a8 then bif !a9 then bif a3 != (0 : Int) then some true else bif a0 != (1 : Int) then bif a4 != (0 : Int) then some true else bif a0 != (17 : Int) then some (decide ((↑a5.length : Int) > (0 : Int))) else some false else bif a0 != (17 : Int) then some (decide ((↑a5.length : Int) > (0 : Int))) else some false else bif a0 != (1 : Int) then bif a4 != (0 : Int) then some true else bif a0 != (17 : Int) then some (decide ((↑a5.length : Int) > (0 : Int))) else some false else bif a0 != (17 : Int) then some (decide ((↑a5.length : Int) > (0 : Int))) else some false else bif a0 != (1 : Int) then bif a4 != (0 : Int) then some true else bif a0 != (17 : Int) then some (decide ((↑a5.length : Int) > (0 : Int))) else some false else bif a0 != (17 : Int) then some (decide ((↑a5.length : Int) > (0 : Int))) else some false else bif !a8 then bif !a9 then bif a3 != (0 : Int) then some true else bif a0 != (1 : Int) then bif a4 != (0 : Int) then some true else bif a0 != (17 : Int) then some (decide ((↑a5.length : Int) > (0 : Int))) else some false else bif a0 != (17 : Int) then some (decide ((↑a5.length : Int) > (0 : Int))) else some false else bif a0 != (1 : Int) then bif a4 != (0 : Int) then some true else bif a0 != (17 : Int) then some (decide ((↑a5.length : Int) > (0 : Int))) else some false else bif a0 != (17 : Int) then some (decide ((↑a5.length : Int) > (0 : Int))) else some false else bif a0 != (1 : Int) then bif a4 != (0 : Int) then some true else bif a0 != (17 : Int) then some (decide ((↑a5.length : Int) > (0 : Int))) else some false else bif a0 != (17 : Int) then some (decide ((↑a5.length : Int) > (0 : Int))) else some false) fun t => some t
noncomputable def F (K : Nat) : sig.In → Option (Bool) := fun x => f K x.1.1.1 x.1.1.2.1 x.1.1.2.2.1 x.1.1.2.2.2.1 x.1.1.2.2.2.2.1 x.1.1.2.2.2.2.2 x.1.2.1 x.1.2.2.1 x.1.2.2.2.1 x.1.2.2.2.2
noncomputable def cv : sig.In → Bool → sig.Ou := fun x r => (r, ())
noncomputable def LP {α : Type} (K : Nat) : LoopsBy α := noLoops
theorem eq (K : Nat) (a0 : Int) (a1 : Int) (a2 : Int) (a3 : Int) (a4 : Int) (a5 : List Int) (a6 : Bool) (a7 : Bool) (a8 : Bool) (a9 : Bool) : runF M sig (C K) (eqBy M.P) (LP K) RF (CP K) 20 Tryz.f189 (bodyOf Tryz.f189) (((a0, (a1, (a2, (a3, (a4, a5))))), (a6, (a7, (a8, a9)))), ()) = (f K a0 a1 a2 a3 a4 a5 a6 a7 a8 a9).bind fun r => some (cv (((a0, (a1, (a2, (a3, (a4, a5))))), (a6, (a7, (a8, a9)))), ()) r) := by
  unfold f
  try simp only [el]
  kernel_rfl
theorem rets (K : Nat) : ∀ x y, withCv (F K) cv x = some y → Rets M 189 sig x y := fun x y h => runF_rets (L := 20) (C_ok K) (eqBy_ok _) (by kernel_rfl) RF_ok (CP_ok K) (show LoopsOk M 0 (LP K) (loopsOf (bodyOf Tryz.f189)) from (show loopsOf (bodyOf Tryz.f189) = [] by kernel_rfl) ▸ noLoops_ok) (Nat.le_of_ble_eq_true rfl) Tryz.func189 (by kernel_rfl) ((eq K x.1.1.1 x.1.1.2.1 x.1.1.2.2.1 x.1.1.2.2.2.1 x.1.1.2.2.2.2.1 x.1.1.2.2.2.2.2 x.1.2.1 x.1.2.2.1 x.1.2.2.2.1 x.1.2.2.2.2).trans h)
end ir_Insn_spare
namespace ir_Arity
/-! ### ir_Arity: function 60 -/
noncomputable def sig : Sig := ⟨(.cons (.agg (.cons (.ty (.slice yI)) (.cons (.ty (.slice yFunc)) (.ty (.slice yImport))))) (.ty yI)), [], (.ty yI), []⟩
noncomputable def RF : RefitBy := noRefit
theorem RF_ok : RefitOk M 0 RF := noRefit_ok
noncomputable def C {α : Type} (K : Nat) : CallsBy α := (entryD 73 ir_within.sig (ir_within.F K) ir_within.cv noCalls)
theorem C_ok {α : Type} (K : Nat) : CallsOk (α := α) M (C K) := (entryD_ok noCalls_ok (by rfl) Tryz.func73 (by kernel_rfl) rfl (ir_within.rets K))
noncomputable def CP {α : Type} (K : Nat) : CutBy α := (cpPut 4 (rpCut M bindC [.bool] [23] (C K) (eqBy M.P)) noCuts)
theorem CP_ok {α : Type} (K : Nat)  : CutsOk (α := α) M 0 (CP K) := (cpPut_ok (rpCut_ok (C_ok K) (eqBy_ok _) (by kernel_rfl)) noCuts_ok)
noncomputable def f (K : Nat) (a1 : List LFunc) (a2 : List LImport) (a3 : Int) : Option (Int) := (ir_within.f K a3 (↑a1.length : Int)).bind fun t => bif t then bif decide ((0 : Int) ≤ a3) && true then a1[a3.toNat]?.bind fun t => some t.2.1 else none else bindC (bif decide (a3 ≥ (0 : Int)) then (ir_within.f K (IntKind.i64.wrap (a3 - (↑a1.length : Int))) (↑a2.length : Int)).bind fun t => some t else some false) fun t => bif t then bif decide ((0 : Int) ≤ IntKind.i64.wrap (a3 - (↑a1.length : Int))) && true then a2[(IntKind.i64.wrap (a3 - (↑a1.length : Int))).toNat]?.bind fun t => some t.2 else none else some (-1 : Int)
noncomputable def F (K : Nat) : sig.In → Option (Int) := fun x => f K x.1.1.2.1 x.1.1.2.2 x.1.2
noncomputable def cv : sig.In → Int → sig.Ou := fun x r => (r, ())
noncomputable def LP {α : Type} (K : Nat) : LoopsBy α := noLoops
theorem eq (K : Nat) (a0 : List Int) (a1 : List LFunc) (a2 : List LImport) (a3 : Int) : runF M sig (C K) (eqBy M.P) (LP K) RF (CP K) 20 Tryz.f60 (bodyOf Tryz.f60) (((a0, (a1, a2)), a3), ()) = (f K a1 a2 a3).bind fun r => some (cv (((a0, (a1, a2)), a3), ()) r) := by
  unfold f
  try simp only [el]
  kernel_rfl
theorem rets (K : Nat) : ∀ x y, withCv (F K) cv x = some y → Rets M 60 sig x y := fun x y h => runF_rets (L := 20) (C_ok K) (eqBy_ok _) (by kernel_rfl) RF_ok (CP_ok K) (show LoopsOk M 0 (LP K) (loopsOf (bodyOf Tryz.f60)) from (show loopsOf (bodyOf Tryz.f60) = [] by kernel_rfl) ▸ noLoops_ok) (Nat.le_of_ble_eq_true rfl) Tryz.func60 (by kernel_rfl) ((eq K x.1.1.1 x.1.1.2.1 x.1.1.2.2 x.1.2).trans h)
end ir_Arity
namespace ir_Module_insn_1
/-! ### ir_Module_insn_1: function 191 -/
noncomputable def sig : Sig := ⟨(.cons (.ty yI) (.ptr 0 0)), [.cells 47 0 (.cons (.ty .str) (.cons (.ty yI) (.cons (.ty yI) (.ty (.slice yBlock)))))], (.ty .bool), [.cells 47 0 (.cons (.ty .str) (.cons (.ty yI) (.cons (.ty yI) (.ty (.slice yBlock)))))]⟩
noncomputable def RF : RefitBy := noRefit
theorem RF_ok : RefitOk M 1 RF := noRefit_ok
noncomputable def C {α : Type} (K : Nat) : CallsBy α := (entryD 73 ir_within.sig (ir_within.F K) ir_within.cv noCalls)
theorem C_ok {α : Type} (K : Nat) : CallsOk (α := α) M (C K) := (entryD_ok noCalls_ok (by rfl) Tryz.func73 (by kernel_rfl) rfl (ir_within.rets K))
noncomputable def CP {α : Type} (K : Nat) : CutBy α := noCuts
theorem CP_ok {α : Type} (K : Nat)  : CutsOk (α := α) M 1 (CP K) := noCuts_ok
noncomputable def f (K : Nat) (a0 : Int) (a3 : Int) : Option (Bool) := (ir_within.f K a0 a3).bind fun t => some !t
noncomputable def F (K : Nat) : sig.In → Option (Bool) := fun x => f K x.1.1 x.2.1.2.2.1
noncomputable def cv : sig.In → Bool → sig.Ou := fun x r => (r, ((x.2.1.1, (x.2.1.2.1, (x.2.1.2.2.1, x.2.1.2.2.2))), ()))
noncomputable def LP {α : Type} (K : Nat) : LoopsBy α := noLoops
theorem eq (K : Nat) (a0 : Int) (a1 : ByteArray) (a2 : Int) (a3 : Int) (a4 : List LBlock) : runF M sig (C K) (eqBy M.P) (LP K) RF (CP K) 20 Tryz.f191 (bodyOf Tryz.f191) ((a0, ()), ((a1, (a2, (a3, a4))), ())) = (f K a0 a3).bind fun r => some (cv ((a0, ()), ((a1, (a2, (a3, a4))), ())) r) := by
  unfold f
  try simp only [el]
  kernel_rfl
theorem rets (K : Nat) : ∀ x y, withCv (F K) cv x = some y → Rets M 191 sig x y := fun x y h => runF_rets (L := 20) (C_ok K) (eqBy_ok _) (by kernel_rfl) RF_ok (CP_ok K) (show LoopsOk M 1 (LP K) (loopsOf (bodyOf Tryz.f191)) from (show loopsOf (bodyOf Tryz.f191) = [] by kernel_rfl) ▸ noLoops_ok) (Nat.le_of_ble_eq_true rfl) Tryz.func191 (by kernel_rfl) ((eq K x.1.1 x.2.1.1 x.2.1.2.1 x.2.1.2.2.1 x.2.1.2.2.2).trans h)
end ir_Module_insn_1
namespace slices_IndexFunc_int_int
/-! ### slices_IndexFunc_int_int: function 214 -/
noncomputable def sig : Sig := ⟨(.cons (.ty (.slice yI)) (.fn 191 .unit (.ptr 0 0))), [.cells 47 0 (.cons (.ty .str) (.cons (.ty yI) (.cons (.ty yI) (.ty (.slice yBlock)))))], (.ty yI), [.cells 47 0 (.cons (.ty .str) (.cons (.ty yI) (.cons (.ty yI) (.ty (.slice yBlock)))))]⟩
noncomputable def RF : RefitBy := noRefit
theorem RF_ok : RefitOk M 1 RF := noRefit_ok
noncomputable def C {α : Type} (K : Nat) : CallsBy α := (entryD 191 ir_Module_insn_1.sig (ir_Module_insn_1.F K) ir_Module_insn_1.cv noCalls)
theorem C_ok {α : Type} (K : Nat) : CallsOk (α := α) M (C K) := (entryD_ok noCalls_ok (by rfl) Tryz.func191 (by kernel_rfl) rfl (ir_Module_insn_1.rets K))
noncomputable def CP {α : Type} (K : Nat) : CutBy α := noCuts
theorem CP_ok {α : Type} (K : Nat)  : CutsOk (α := α) M 1 (CP K) := noCuts_ok
noncomputable def l0.h : SSh := ⟨[0, 1, 7, 8], (.cons (.ty (.slice yI)) (.cons (.fn 191 .unit (.ptr 0 0)) (.cons (.ty yI) (.ty yI)))), [.cells 47 0 (.cons (.ty .str) (.cons (.ty yI) (.cons (.ty yI) (.ty (.slice yBlock)))))]⟩
noncomputable def l0.x : SSh := ⟨[], .unit, [.cells 47 0 (.cons (.ty .str) (.cons (.ty yI) (.cons (.ty yI) (.ty (.slice yBlock)))))]⟩
noncomputable def l0.r : SSh := ⟨[4], (.ty yI), [.cells 47 0 (.cons (.ty .str) (.cons (.ty yI) (.cons (.ty yI) (.ty (.slice yBlock)))))]⟩
noncomputable def l0.cx : l0.h.I → Unit → l0.x.I := fun x r => ((), ((x.2.1.1, (x.2.1.2.1, (x.2.1.2.2.1, x.2.1.2.2.2))), ()))
noncomputable def l0.cr : l0.h.I → Int → l0.r.I := fun x r => (r, ((x.2.1.1, (x.2.1.2.1, (x.2.1.2.2.1, x.2.1.2.2.2))), ()))
noncomputable def l0.f (K : Nat) : Nat → List Int → Int → Int → Int → Option ((Unit) ⊕ (Int))
  | 0, _, _, _, _ => none
  | k + 1, a0, a1, a2, a5 => bif decide (a2 < a1) then bif decide ((0 : Int) ≤ a2) && true then a0[a2.toNat]?.bind fun t => (ir_Module_insn_1.f K t a5).bind fun t => bif t then some (Sum.inr a2) else l0.f K k a0 a1 (IntKind.i64.wrap (a2 + (1 : Int))) a5 else none else some (Sum.inl ())
noncomputable def l0.F (K : Nat) (k : Nat) : l0.h.I → Option ((Unit) ⊕ (Int)) := fun x => l0.f K k x.1.1 x.1.2.2.1 x.1.2.2.2 x.2.1.2.2.1
noncomputable def l0.lp {α : Type} (K : Nat) : St → Kn α → Option α := lpXRD 1 19 0 l0.h l0.x l0.r (l0.F K K) l0.cx l0.cr
noncomputable def l0.c : Code := nthLoop Tryz.f214 0
noncomputable def l0.LP {α : Type} (K : Nat) : LoopsBy α := noLoops
theorem l0.eq (K : Nat) (k : Nat) (a0 : List Int) (a1 : Int) (a2 : Int) (a3 : ByteArray) (a4 : Int) (a5 : Int) (a6 : List LBlock) : exec M (C K) (eqBy M.P) (l0.LP K) RF (CP K) 20 l0.c (Kl 1 l0.h (withCv (l0.F K k) (smap l0.cx l0.cr)) (backXR 1 0 l0.x l0.r)) (l0.h.enc 19 ((a0, (((), ()), (a1, a2))), ((a3, (a4, (a5, a6))), ()))) = (l0.f K (k + 1) a0 a1 a2 a5).bind fun r => some ((smap l0.cx l0.cr) ((a0, (((), ()), (a1, a2))), ((a3, (a4, (a5, a6))), ())) r) := by
  rw [l0.f]
  try simp only [el]
  kernel_rfl
theorem l0.leads (K : Nat) : ∀ k x y, withCv (l0.F K k) (smap l0.cx l0.cr) x = some y → Leads M 1 (.loop l0.c) (l0.h.enc 19 x) (outXR 19 0 l0.x l0.r y).1 (outXR 19 0 l0.x l0.r y).2 :=
  loopXR_sound (C_ok K) (eqBy_ok _) (by kernel_rfl) RF_ok (CP_ok K) (show LoopsOk M 1 (l0.LP K) (loopsOf l0.c) from (show loopsOf l0.c = [] by kernel_rfl) ▸ (noLoops_ok)) (Nat.le_of_ble_eq_true rfl) (Nat.le_of_ble_eq_true rfl) (Nat.le_of_ble_eq_true rfl) (fun x => rfl) (fun k x => l0.eq K k x.1.1 x.1.2.2.1 x.1.2.2.2 x.2.1.1 x.2.1.2.1 x.2.1.2.2.1 x.2.1.2.2.2)
theorem l0.lp_ok {α : Type} (K : Nat) : LoopOk (α := α) M 1 (nthLoop Tryz.f214 0) (l0.lp K) := lpXRD_ok (Nat.le_of_ble_eq_true rfl) (l0.leads K K)
noncomputable def f (K : Nat) (a0 : List Int) (a3 : Int) : Option (Int) := (l0.f K K a0 (↑a0.length : Int) (0 : Int) a3).bind fun t => Sum.elim (fun t => some (-1 : Int)) (fun t => some t) t
noncomputable def F (K : Nat) : sig.In → Option (Int) := fun x => f K x.1.1 x.2.1.2.2.1
noncomputable def cv : sig.In → Int → sig.Ou := fun x r => (r, ((x.2.1.1, (x.2.1.2.1, (x.2.1.2.2.1, x.2.1.2.2.2))), ()))
noncomputable def LP {α : Type} (K : Nat) : LoopsBy α := (lpPut 2 (l0.lp K) noLoops)
theorem eq (K : Nat) (a0 : List Int) (a1 : ByteArray) (a2 : Int) (a3 : Int) (a4 : List LBlock) : runF M sig (C K) (eqBy M.P) (LP K) RF (CP K) 20 Tryz.f214 (bodyOf Tryz.f214) ((a0, ((), ())), ((a1, (a2, (a3, a4))), ())) = (f K a0 a3).bind fun r => some (cv ((a0, ((), ())), ((a1, (a2, (a3, a4))), ())) r) := by
  unfold f
  try simp only [el]
  kernel_rfl
theorem rets (K : Nat) : ∀ x y, withCv (F K) cv x = some y → Rets M 214 sig x y := fun x y h => runF_rets (L := 20) (C_ok K) (eqBy_ok _) (by kernel_rfl) RF_ok (CP_ok K) (show LoopsOk M 1 (LP K) (loopsOf (bodyOf Tryz.f214)) from (show loopsOf (bodyOf Tryz.f214) = [nthLoop Tryz.f214 0] by kernel_rfl) ▸ (loopsOk_put (key := 2) (by kernel_rfl) (l0.lp_ok K) noLoops_ok (by kernel_rfl))) (Nat.le_of_ble_eq_true rfl) Tryz.func214 (by kernel_rfl) ((eq K x.1.1 x.2.1.1 x.2.1.2.1 x.2.1.2.2.1 x.2.1.2.2.2).trans h)
end slices_IndexFunc_int_int
namespace slices_ContainsFunc_int_int
/-! ### slices_ContainsFunc_int_int: function 190 -/
noncomputable def sig : Sig := ⟨(.cons (.ty (.slice yI)) (.fn 191 .unit (.ptr 0 0))), [.cells 47 0 (.cons (.ty .str) (.cons (.ty yI) (.cons (.ty yI) (.ty (.slice yBlock)))))], (.ty .bool), [.cells 47 0 (.cons (.ty .str) (.cons (.ty yI) (.cons (.ty yI) (.ty (.slice yBlock)))))]⟩
noncomputable def RF : RefitBy := noRefit
theorem RF_ok : RefitOk M 1 RF := noRefit_ok
noncomputable def C {α : Type} (K : Nat) : CallsBy α := (entryD 214 slices_IndexFunc_int_int.sig (slices_IndexFunc_int_int.F K) slices_IndexFunc_int_int.cv noCalls)
theorem C_ok {α : Type} (K : Nat) : CallsOk (α := α) M (C K) := (entryD_ok noCalls_ok (by rfl) Tryz.func214 (by kernel_rfl) rfl (slices_IndexFunc_int_int.rets K))
noncomputable def CP {α : Type} (K : Nat) : CutBy α := noCuts
theorem CP_ok {α : Type} (K : Nat)  : CutsOk (α := α) M 1 (CP K) := noCuts_ok
noncomputable def f (K : Nat) (a0 : List Int) (a3 : Int) : Option (Bool) := (slices_IndexFunc_int_int.f K a0 a3).bind fun t => some (decide (t ≥ (0 : Int)))
noncomputable def F (K : Nat) : sig.In → Option (Bool) := fun x => f K x.1.1 x.2.1.2.2.1
noncomputable def cv : sig.In → Bool → sig.Ou := fun x r => (r, ((x.2.1.1, (x.2.1.2.1, (x.2.1.2.2.1, x.2.1.2.2.2))), ()))
noncomputable def LP {α : Type} (K : Nat) : LoopsBy α := noLoops
theorem eq (K : Nat) (a0 : List Int) (a1 : ByteArray) (a2 : Int) (a3 : Int) (a4 : List LBlock) : runF M sig (C K) (eqBy M.P) (LP K) RF (CP K) 20 Tryz.f190 (bodyOf Tryz.f190) ((a0, ((), ())), ((a1, (a2, (a3, a4))), ())) = (f K a0 a3).bind fun r => some (cv ((a0, ((), ())), ((a1, (a2, (a3, a4))), ())) r) := by
  unfold f
  try simp only [el]
  kernel_rfl
theorem rets (K : Nat) : ∀ x y, withCv (F K) cv x = some y → Rets M 190 sig x y := fun x y h => runF_rets (L := 20) (C_ok K) (eqBy_ok _) (by kernel_rfl) RF_ok (CP_ok K) (show LoopsOk M 1 (LP K) (loopsOf (bodyOf Tryz.f190)) from (show loopsOf (bodyOf Tryz.f190) = [] by kernel_rfl) ▸ noLoops_ok) (Nat.le_of_ble_eq_true rfl) Tryz.func190 (by kernel_rfl) ((eq K x.1.1 x.2.1.1 x.2.1.2.1 x.2.1.2.2.1 x.2.1.2.2.2).trans h)
end slices_ContainsFunc_int_int
namespace ir_Module_insn
/-! ### ir_Module_insn: function 159 -/
noncomputable def sig : Sig := ⟨(.cons (.agg (.cons (.ty (.slice yI)) (.cons (.ty (.slice yFunc)) (.ty (.slice yImport))))) (.cons (.agg (.cons (.ty .str) (.cons (.ty yI) (.cons (.ty yI) (.ty (.slice yBlock)))))) (.agg (.cons (.ty yI) (.cons (.ty yI) (.cons (.ty yI) (.cons (.ty yI) (.cons (.ty yI) (.ty (.slice yI)))))))))), [], (.ty yI), []⟩
noncomputable def RF : RefitBy := noRefit
theorem RF_ok : RefitOk M 0 RF := noRefit_ok
noncomputable def C {α : Type} (K : Nat) : CallsBy α := (entryD 154 ir_Insn_fields.sig (ir_Insn_fields.F K) ir_Insn_fields.cv (entryD 189 ir_Insn_spare.sig (ir_Insn_spare.F K) ir_Insn_spare.cv (entryD 73 ir_within.sig (ir_within.F K) ir_within.cv (entryD 60 ir_Arity.sig (ir_Arity.F K) ir_Arity.cv (entryD 190 slices_ContainsFunc_int_int.sig (slices_ContainsFunc_int_int.F K) slices_ContainsFunc_int_int.cv noCalls)))))
theorem C_ok {α : Type} (K : Nat) : CallsOk (α := α) M (C K) := (entryD_ok (entryD_ok (entryD_ok (entryD_ok (entryD_ok noCalls_ok (by rfl) Tryz.func190 (by kernel_rfl) rfl (slices_ContainsFunc_int_int.rets K)) (by rfl) Tryz.func60 (by kernel_rfl) rfl (ir_Arity.rets K)) (by rfl) Tryz.func73 (by kernel_rfl) rfl (ir_within.rets K)) (by rfl) Tryz.func189 (by kernel_rfl) rfl (ir_Insn_spare.rets K)) (by rfl) Tryz.func154 (by kernel_rfl) rfl (ir_Insn_fields.rets K))
noncomputable def CP {α : Type} (K : Nat) : CutBy α := (cpPut 6 (rpCut M bindC [.bool] [21] (C K) (eqBy M.P)) (cpPut 7 (rpCut M bindC [.bool] [21] (C K) (eqBy M.P)) (cpPut 8 (rpCut M bindC [.bool] [21] (C K) (eqBy M.P)) (cpPut 10 (rpCut M bindC [.bool] [52] (C K) (eqBy M.P)) noCuts))))
theorem CP_ok {α : Type} (K : Nat)  : CutsOk (α := α) M 0 (CP K) := (cpPut_ok (rpCut_ok (C_ok K) (eqBy_ok _) (by kernel_rfl)) (cpPut_ok (rpCut_ok (C_ok K) (eqBy_ok _) (by kernel_rfl)) (cpPut_ok (rpCut_ok (C_ok K) (eqBy_ok _) (by kernel_rfl)) (cpPut_ok (rpCut_ok (C_ok K) (eqBy_ok _) (by kernel_rfl)) noCuts_ok))))
noncomputable def f (K : Nat) (a0 : List Int) (a1 : List LFunc) (a2 : List LImport) (a5 : Int) (a7 : Int) (a8 : Int) (a9 : Int) (a10 : Int) (a11 : Int) (a12 : List Int) : Option (Int) := (ir_Insn_fields.f K a7).bind fun t => bif !t.2.2.2.2 then some (5 : Int) else (ir_Insn_spare.f K a7 a8 a9 a10 a11 a12 t.1 t.2.1 t.2.2.1 t.2.2.2.1).bind fun t_1 => bif t_1 then some (3 : Int) else bindC (bif t.1 then (ir_within.f K a8 a5).bind fun t => some !t else some false) fun t_2 => bif t_2 then some (9 : Int) else bindC (bif t.2.1 then (ir_within.f K a9 a5).bind fun t => some !t else some false) fun t_3 => bif t_3 then some (9 : Int) else bindC (bif t.2.2.1 then (ir_within.f K a10 a5).bind fun t => some !t else some false) fun t => bif t then some (9 : Int) else bindC (bif a7 == (13 : Int) then (ir_within.f K a10 (↑a0.length : Int)).bind fun t => some !t else bif a7 == (14 : Int) then (ir_within.f K a10 (↑a0.length : Int)).bind fun t => some !t else some false) fun t => bif t then some (4 : Int) else bif a7 != (17 : Int) then some (0 : Int) else (ir_Arity.f K a1 a2 a10).bind fun t => bif t == (-1 : Int) then some (7 : Int) else (ir_Arity.f K a1 a2 a10).bind fun t => bif (↑a12.length : Int) != t then some (10 : Int) else (slices_ContainsFunc_int_int.f K a12 a5).bind fun t => bif t then some (9 : Int) else some (0 : Int)
noncomputable def F (K : Nat) : sig.In → Option (Int) := fun x => f K x.1.1.1 x.1.1.2.1 x.1.1.2.2 x.1.2.1.2.2.1 x.1.2.2.1 x.1.2.2.2.1 x.1.2.2.2.2.1 x.1.2.2.2.2.2.1 x.1.2.2.2.2.2.2.1 x.1.2.2.2.2.2.2.2
noncomputable def cv : sig.In → Int → sig.Ou := fun x r => (r, ())
noncomputable def LP {α : Type} (K : Nat) : LoopsBy α := noLoops
theorem eq (K : Nat) (a0 : List Int) (a1 : List LFunc) (a2 : List LImport) (a3 : ByteArray) (a4 : Int) (a5 : Int) (a6 : List LBlock) (a7 : Int) (a8 : Int) (a9 : Int) (a10 : Int) (a11 : Int) (a12 : List Int) : runF M sig (C K) (eqBy M.P) (LP K) RF (CP K) 20 Tryz.f159 (bodyOf Tryz.f159) (((a0, (a1, a2)), ((a3, (a4, (a5, a6))), (a7, (a8, (a9, (a10, (a11, a12))))))), ()) = (f K a0 a1 a2 a5 a7 a8 a9 a10 a11 a12).bind fun r => some (cv (((a0, (a1, a2)), ((a3, (a4, (a5, a6))), (a7, (a8, (a9, (a10, (a11, a12))))))), ()) r) := by
  unfold f
  try simp only [el]
  kernel_rfl
theorem rets (K : Nat) : ∀ x y, withCv (F K) cv x = some y → Rets M 159 sig x y := fun x y h => runF_rets (L := 20) (C_ok K) (eqBy_ok _) (by kernel_rfl) RF_ok (CP_ok K) (show LoopsOk M 0 (LP K) (loopsOf (bodyOf Tryz.f159)) from (show loopsOf (bodyOf Tryz.f159) = [] by kernel_rfl) ▸ noLoops_ok) (Nat.le_of_ble_eq_true rfl) Tryz.func159 (by kernel_rfl) ((eq K x.1.1.1 x.1.1.2.1 x.1.1.2.2 x.1.2.1.1 x.1.2.1.2.1 x.1.2.1.2.2.1 x.1.2.1.2.2.2 x.1.2.2.1 x.1.2.2.2.1 x.1.2.2.2.2.1 x.1.2.2.2.2.2.1 x.1.2.2.2.2.2.2.1 x.1.2.2.2.2.2.2.2).trans h)
end ir_Module_insn
namespace fault_At
/-! ### fault_At: function 93 -/
noncomputable def sig : Sig := ⟨(.cons (.ty .err) (.ty (.slice yI))), [], (.ty .err), []⟩
noncomputable def RF : RefitBy := noRefit
theorem RF_ok : RefitOk M 0 RF := noRefit_ok
noncomputable def C {α : Type} (K : Nat) : CallsBy α := noCalls
theorem C_ok {α : Type} (K : Nat) : CallsOk (α := α) M (C K) := noCalls_ok
noncomputable def CP {α : Type} (K : Nat) : CutBy α := noCuts
theorem CP_ok {α : Type} (K : Nat)  : CutsOk (α := α) M 0 (CP K) := noCuts_ok
noncomputable def l0.h : SSh := ⟨[0, 1, 5], (.cons (.ty .err) (.cons (.ty (.slice yI)) (.ty yI))), []⟩
noncomputable def l0.x : SSh := ⟨[0], (.ty .err), []⟩
noncomputable def l0.cx : l0.h.I → Err → l0.x.I := fun x r => (r, ())
noncomputable def l0.f (K : Nat) : Nat → Err → List Int → Int → Option (Err)
  | 0, _, _, _ => none
  | k + 1, a0, a1, a2 => bif decide (a2 ≥ (0 : Int)) then bif decide ((0 : Int) ≤ a2) && true then a1[a2.toNat]?.bind fun t => l0.f K k (Err.at t a0) a1 (IntKind.i64.wrap (a2 - (1 : Int))) else none else some a0
noncomputable def l0.F (K : Nat) (k : Nat) : l0.h.I → Option (Err) := fun x => l0.f K k x.1.1 x.1.2.1 x.1.2.2
noncomputable def l0.lp {α : Type} (K : Nat) : St → Kn α → Option α := lpX 0 24 0 l0.h l0.x (l0.F K K) l0.cx
noncomputable def l0.c : Code := nthLoop Tryz.f93 0
noncomputable def l0.LP {α : Type} (K : Nat) : LoopsBy α := noLoops
theorem l0.eq (K : Nat) (k : Nat) (a0 : Err) (a1 : List Int) (a2 : Int) : exec M (C K) (eqBy M.P) (l0.LP K) RF (CP K) 20 l0.c (Kl 0 l0.h (withCv (l0.F K k) l0.cx) (backX 0 24 0 l0.x)) (l0.h.enc 24 ((a0, (a1, a2)), ())) = (l0.f K (k + 1) a0 a1 a2).bind fun r => some (l0.cx ((a0, (a1, a2)), ()) r) := by
  rw [l0.f]
  try simp only [el]
  kernel_rfl
theorem l0.leads (K : Nat) : ∀ k x y, withCv (l0.F K k) l0.cx x = some y → Leads M 0 (.loop l0.c) (l0.h.enc 24 x) (outX 24 0 l0.x y).1 (outX 24 0 l0.x y).2 :=
  loopX_sound (C_ok K) (eqBy_ok _) (by kernel_rfl) RF_ok (CP_ok K) (show LoopsOk M 0 (l0.LP K) (loopsOf l0.c) from (show loopsOf l0.c = [] by kernel_rfl) ▸ (noLoops_ok)) (Nat.le_of_ble_eq_true rfl) (Nat.le_of_ble_eq_true rfl) (fun x => rfl) (fun k x => l0.eq K k x.1.1 x.1.2.1 x.1.2.2)
theorem l0.lp_ok {α : Type} (K : Nat) : LoopOk (α := α) M 0 (nthLoop Tryz.f93 0) (l0.lp K) := lpX_ok (Nat.le_of_ble_eq_true rfl) (l0.leads K K)
noncomputable def f (K : Nat) (a0 : Err) (a1 : List Int) : Option (Err) := bif bif false then !a0.isNil else a0.isNil then some Err.nil else l0.f K K a0 a1 (IntKind.i64.wrap ((↑a1.length : Int) - (1 : Int)))
noncomputable def F (K : Nat) : sig.In → Option (Err) := fun x => f K x.1.1 x.1.2
noncomputable def cv : sig.In → Err → sig.Ou := fun x r => (r, ())
noncomputable def LP {α : Type} (K : Nat) : LoopsBy α := (lpPut 4 (l0.lp K) noLoops)
theorem eq (K : Nat) (a0 : Err) (a1 : List Int) : runF M sig (C K) (eqBy M.P) (LP K) RF (CP K) 20 Tryz.f93 (bodyOf Tryz.f93) ((a0, a1), ()) = (f K a0 a1).bind fun r => some (cv ((a0, a1), ()) r) := by
  unfold f
  try simp only [el]
  kernel_rfl
theorem rets (K : Nat) : ∀ x y, withCv (F K) cv x = some y → Rets M 93 sig x y := fun x y h => runF_rets (L := 20) (C_ok K) (eqBy_ok _) (by kernel_rfl) RF_ok (CP_ok K) (show LoopsOk M 0 (LP K) (loopsOf (bodyOf Tryz.f93)) from (show loopsOf (bodyOf Tryz.f93) = [nthLoop Tryz.f93 0] by kernel_rfl) ▸ (loopsOk_put (key := 4) (by kernel_rfl) (l0.lp_ok K) noLoops_ok (by kernel_rfl))) (Nat.le_of_ble_eq_true rfl) Tryz.func93 (by kernel_rfl) ((eq K x.1.1 x.1.2).trans h)
end fault_At
namespace ir_Func_end
/-! ### ir_Func_end: function 160 -/
noncomputable def sig : Sig := ⟨(.cons (.agg (.cons (.ty .str) (.cons (.ty yI) (.cons (.ty yI) (.ty (.slice yBlock)))))) (.agg (.cons (.ty yI) (.cons (.ty yI) (.cons (.ty yI) (.ty yI)))))), [], (.ty yI), []⟩
noncomputable def RF : RefitBy := noRefit
theorem RF_ok : RefitOk M 0 RF := noRefit_ok
noncomputable def C {α : Type} (K : Nat) : CallsBy α := (entryD 73 ir_within.sig (ir_within.F K) ir_within.cv noCalls)
theorem C_ok {α : Type} (K : Nat) : CallsOk (α := α) M (C K) := (entryD_ok noCalls_ok (by rfl) Tryz.func73 (by kernel_rfl) rfl (ir_within.rets K))
noncomputable def CP {α : Type} (K : Nat) : CutBy α := (cpPut 6 (rpCut M bindC [.bool] [11] (C K) (eqBy M.P)) (cpPut 7 (rpCut M bindC [.bool] [11] (C K) (eqBy M.P)) (cpPut 8 (rpCut M bindC [.bool] [11] (C K) (eqBy M.P)) (cpPut 10 (rpCut M bindC [.bool] [36] (C K) (eqBy M.P)) (cpPut 12 (rpCut M bindC [.bool] [48] (C K) (eqBy M.P)) (cpPut 13 (rpCut M bindC [.bool] [48] (C K) (eqBy M.P)) noCuts))))))
theorem CP_ok {α : Type} (K : Nat)  : CutsOk (α := α) M 0 (CP K) := (cpPut_ok (rpCut_ok (C_ok K) (eqBy_ok _) (by kernel_rfl)) (cpPut_ok (rpCut_ok (C_ok K) (eqBy_ok _) (by kernel_rfl)) (cpPut_ok (rpCut_ok (C_ok K) (eqBy_ok _) (by kernel_rfl)) (cpPut_ok (rpCut_ok (C_ok K) (eqBy_ok _) (by kernel_rfl)) (cpPut_ok (rpCut_ok (C_ok K) (eqBy_ok _) (by kernel_rfl)) (cpPut_ok (rpCut_ok (C_ok K) (eqBy_ok _) (by kernel_rfl)) noCuts_ok))))))
noncomputable def f (K : Nat) (a2 : Int) (a3 : List LBlock) (a4 : Int) (a5 : Int) (a6 : Int) (a7 : Int) : Option (Int) := bif a4 == (1 : Int) then bindC (bif a4 == (1 : Int) then some (a5 != (0 : Int)) else some false) fun t => bif t then some (3 : Int) else bindC (bif a4 == (3 : Int) then some (a6 != (0 : Int)) else some false) fun t => bif t then some (3 : Int) else bindC (bif a4 != (2 : Int) then some (a7 != (0 : Int)) else some false) fun t => bif t then some (3 : Int) else bindC (bif a4 != (1 : Int) then (ir_within.f K a5 a2).bind fun t => some !t else some false) fun t => bif t then some (9 : Int) else bindC (bif a4 != (3 : Int) then (ir_within.f K a6 (↑a3.length : Int)).bind fun t => some !t else some false) fun t => bif t then some (8 : Int) else bindC (bif a4 == (2 : Int) then (ir_within.f K a7 (↑a3.length : Int)).bind fun t => some !t else some false) fun t => bif t then some (8 : Int) else some (0 : Int) else bif a4 == (2 : Int) then bindC (bif a4 == (1 : Int) then some (a5 != (0 : Int)) else some false) fun t => bif t then some (3 : Int) else bindC (bif a4 == (3 : Int) then some (a6 != (0 : Int)) else some false) fun t => bif t then some (3 : Int) else bindC (bif a4 != (2 : Int) then some (a7 != (0 : Int)) else some false) fun t => bif t then some (3 : Int) else bindC (bif a4 != (1 : Int) then (ir_within.f K a5 a2).bind fun t => some !t else some false) fun t => bif t then some (9 : Int) else bindC (bif a4 != (3 : Int) then (ir_within.f K a6 (↑a3.length : Int)).bind fun t => some !t else some false) fun t => bif t then some (8 : Int) else bindC (bif a4 == (2 : Int) then (ir_within.f K a7 (↑a3.length : Int)).bind fun t => some !t else some false) fun t => bif t then some (8 : Int) else some (0 : Int) else bif a4 == (3 : Int) then bindC (bif a4 == (1 : Int) then some (a5 != (0 : Int)) else some false) fun t => bif t then some (3 : Int) else bindC (bif a4 == (3 : Int) then some (a6 != (0 : Int)) else some false) fun t => bif t then some (3 : Int) else bindC (bif a4 != (2 : Int) then some (a7 != (0 : Int)) else some false) fun t => bif t then some (3 : Int) else bindC (bif a4 != (1 : Int) then (ir_within.f K a5 a2).bind fun t => some !t else some false) fun t => bif t then some (9 : Int) else bindC (bif a4 != (3 : Int) then (ir_within.f K a6 (↑a3.length : Int)).bind fun t => some !t else some false) fun t => bif t then some (8 : Int) else bindC (bif a4 == (2 : Int) then (ir_within.f K a7 (↑a3.length : Int)).bind fun t => some !t else some false) fun t => bif t then some (8 : Int) else some (0 : Int) else some (5 : Int)
noncomputable def F (K : Nat) : sig.In → Option (Int) := fun x => f K x.1.1.2.2.1 x.1.1.2.2.2 x.1.2.1 x.1.2.2.1 x.1.2.2.2.1 x.1.2.2.2.2
noncomputable def cv : sig.In → Int → sig.Ou := fun x r => (r, ())
noncomputable def LP {α : Type} (K : Nat) : LoopsBy α := noLoops
theorem eq (K : Nat) (a0 : ByteArray) (a1 : Int) (a2 : Int) (a3 : List LBlock) (a4 : Int) (a5 : Int) (a6 : Int) (a7 : Int) : runF M sig (C K) (eqBy M.P) (LP K) RF (CP K) 20 Tryz.f160 (bodyOf Tryz.f160) (((a0, (a1, (a2, a3))), (a4, (a5, (a6, a7)))), ()) = (f K a2 a3 a4 a5 a6 a7).bind fun r => some (cv (((a0, (a1, (a2, a3))), (a4, (a5, (a6, a7)))), ()) r) := by
  unfold f
  try simp only [el]
  kernel_rfl
theorem rets (K : Nat) : ∀ x y, withCv (F K) cv x = some y → Rets M 160 sig x y := fun x y h => runF_rets (L := 20) (C_ok K) (eqBy_ok _) (by kernel_rfl) RF_ok (CP_ok K) (show LoopsOk M 0 (LP K) (loopsOf (bodyOf Tryz.f160)) from (show loopsOf (bodyOf Tryz.f160) = [] by kernel_rfl) ▸ noLoops_ok) (Nat.le_of_ble_eq_true rfl) Tryz.func160 (by kernel_rfl) ((eq K x.1.1.1 x.1.1.2.1 x.1.1.2.2.1 x.1.1.2.2.2 x.1.2.1 x.1.2.2.1 x.1.2.2.2.1 x.1.2.2.2.2).trans h)
end ir_Func_end
namespace ir_Module_block
/-! ### ir_Module_block: function 137 -/
noncomputable def sig : Sig := ⟨(.cons (.agg (.cons (.ty (.slice yI)) (.cons (.ty (.slice yFunc)) (.ty (.slice yImport))))) (.cons (.agg (.cons (.ty .str) (.cons (.ty yI) (.cons (.ty yI) (.ty (.slice yBlock)))))) (.agg (.cons (.ty (.slice yInsn)) (.cons (.ty yI) (.cons (.ty yI) (.cons (.ty yI) (.ty yI)))))))), [], (.ty .err), []⟩
noncomputable def RF : RefitBy := noRefit
theorem RF_ok : RefitOk M 0 RF := noRefit_ok
noncomputable def C {α : Type} (K : Nat) : CallsBy α := (entryD 159 ir_Module_insn.sig (ir_Module_insn.F K) ir_Module_insn.cv (entryD 93 fault_At.sig (fault_At.F K) fault_At.cv (entryD 160 ir_Func_end.sig (ir_Func_end.F K) ir_Func_end.cv noCalls)))
theorem C_ok {α : Type} (K : Nat) : CallsOk (α := α) M (C K) := (entryD_ok (entryD_ok (entryD_ok noCalls_ok (by rfl) Tryz.func160 (by kernel_rfl) rfl (ir_Func_end.rets K)) (by rfl) Tryz.func93 (by kernel_rfl) rfl (fault_At.rets K)) (by rfl) Tryz.func159 (by kernel_rfl) rfl (ir_Module_insn.rets K))
noncomputable def CP {α : Type} (K : Nat) : CutBy α := noCuts
theorem CP_ok {α : Type} (K : Nat)  : CutsOk (α := α) M 0 (CP K) := noCuts_ok
noncomputable def l0.h : SSh := ⟨[3, 4, 5, 17, 18, 19], (.cons (.ptr 0 0) (.cons (.ptr 1 0) (.cons (.ptr 2 0) (.cons (.ty (.slice yInsn)) (.cons (.ty yI) (.ty yI)))))), [.cells 35 0 (.cons (.ty (.slice yI)) (.cons (.ty (.slice yFunc)) (.ty (.slice yImport)))), .cells 47 0 (.cons (.ty .str) (.cons (.ty yI) (.cons (.ty yI) (.ty (.slice yBlock))))), .cells 91 0 (.cons (.ty (.slice yInsn)) (.cons (.ty yI) (.cons (.ty yI) (.cons (.ty yI) (.ty yI)))))]⟩
noncomputable def l0.x : SSh := ⟨[4, 5], (.cons (.ptr 0 0) (.ptr 1 0)), [.cells 47 0 (.cons (.ty .str) (.cons (.ty yI) (.cons (.ty yI) (.ty (.slice yBlock))))), .cells 91 0 (.cons (.ty (.slice yInsn)) (.cons (.ty yI) (.cons (.ty yI) (.cons (.ty yI) (.ty yI)))))]⟩
noncomputable def l0.r : SSh := ⟨[6], (.ty .err), []⟩
noncomputable def l0.cx : l0.h.I → Unit → l0.x.I := fun x r => (((), ()), ((x.2.2.1.1, (x.2.2.1.2.1, (x.2.2.1.2.2.1, x.2.2.1.2.2.2))), ((x.2.2.2.1.1, (x.2.2.2.1.2.1, (x.2.2.2.1.2.2.1, (x.2.2.2.1.2.2.2.1, x.2.2.2.1.2.2.2.2)))), ())))
noncomputable def l0.cr : l0.h.I → Err → l0.r.I := fun x r => (r, ())
noncomputable def l0.f (K : Nat) : Nat → List LInsn → Int → Int → List Int → List LFunc → List LImport → Int → Option ((Unit) ⊕ (Err))
  | 0, _, _, _, _, _, _, _ => none
  | k + 1, a0, a1, a2, a3, a4, a5, a8 => bif decide (a2 < a1) then bif decide ((0 : Int) ≤ a2) && true then a0[a2.toNat]?.bind fun t => (ir_Module_insn.f K a3 a4 a5 a8 t.1 t.2.1 t.2.2.1 t.2.2.2.1 t.2.2.2.2.1 t.2.2.2.2.2).bind fun t => bif t != (0 : Int) then (fault_At.f K (Err.no t) [a2]).bind fun t => some (Sum.inr t) else l0.f K k a0 a1 (IntKind.i64.wrap (a2 + (1 : Int))) a3 a4 a5 a8 else none else some (Sum.inl ())
noncomputable def l0.F (K : Nat) (k : Nat) : l0.h.I → Option ((Unit) ⊕ (Err)) := fun x => l0.f K k x.1.2.2.2.1 x.1.2.2.2.2.1 x.1.2.2.2.2.2 x.2.1.1 x.2.1.2.1 x.2.1.2.2 x.2.2.1.2.2.1
noncomputable def l0.lp {α : Type} (K : Nat) : St → Kn α → Option α := lpXRD 0 49 0 l0.h l0.x l0.r (l0.F K K) l0.cx l0.cr
noncomputable def l0.c : Code := nthLoop Tryz.f137 0
noncomputable def l0.LP {α : Type} (K : Nat) : LoopsBy α := noLoops
theorem l0.eq (K : Nat) (k : Nat) (a0 : List LInsn) (a1 : Int) (a2 : Int) (a3 : List Int) (a4 : List LFunc) (a5 : List LImport) (a6 : ByteArray) (a7 : Int) (a8 : Int) (a9 : List LBlock) (a10 : List LInsn) (a11 : Int) (a12 : Int) (a13 : Int) (a14 : Int) : exec M (C K) (eqBy M.P) (l0.LP K) RF (CP K) 20 l0.c (Kl 0 l0.h (withCv (l0.F K k) (smap l0.cx l0.cr)) (backXR 0 0 l0.x l0.r)) (l0.h.enc 49 (((), ((), ((), (a0, (a1, a2))))), ((a3, (a4, a5)), ((a6, (a7, (a8, a9))), ((a10, (a11, (a12, (a13, a14)))), ()))))) = (l0.f K (k + 1) a0 a1 a2 a3 a4 a5 a8).bind fun r => some ((smap l0.cx l0.cr) (((), ((), ((), (a0, (a1, a2))))), ((a3, (a4, a5)), ((a6, (a7, (a8, a9))), ((a10, (a11, (a12, (a13, a14)))), ())))) r) := by
  rw [l0.f]
  try simp only [el]
  kernel_rfl
theorem l0.leads (K : Nat) : ∀ k x y, withCv (l0.F K k) (smap l0.cx l0.cr) x = some y → Leads M 0 (.loop l0.c) (l0.h.enc 49 x) (outXR 49 0 l0.x l0.r y).1 (outXR 49 0 l0.x l0.r y).2 :=
  loopXR_sound (C_ok K) (eqBy_ok _) (by kernel_rfl) RF_ok (CP_ok K) (show LoopsOk M 0 (l0.LP K) (loopsOf l0.c) from (show loopsOf l0.c = [] by kernel_rfl) ▸ (noLoops_ok)) (Nat.le_of_ble_eq_true rfl) (Nat.le_of_ble_eq_true rfl) (Nat.le_of_ble_eq_true rfl) (fun x => rfl) (fun k x => l0.eq K k x.1.2.2.2.1 x.1.2.2.2.2.1 x.1.2.2.2.2.2 x.2.1.1 x.2.1.2.1 x.2.1.2.2 x.2.2.1.1 x.2.2.1.2.1 x.2.2.1.2.2.1 x.2.2.1.2.2.2 x.2.2.2.1.1 x.2.2.2.1.2.1 x.2.2.2.1.2.2.1 x.2.2.2.1.2.2.2.1 x.2.2.2.1.2.2.2.2)
theorem l0.lp_ok {α : Type} (K : Nat) : LoopOk (α := α) M 0 (nthLoop Tryz.f137 0) (l0.lp K) := lpXRD_ok (Nat.le_of_ble_eq_true rfl) (l0.leads K K)
noncomputable def f (K : Nat) (a0 : List Int) (a1 : List LFunc) (a2 : List LImport) (a5 : Int) (a6 : List LBlock) (a7 : List LInsn) (a8 : Int) (a9 : Int) (a10 : Int) (a11 : Int) : Option (Err) := bif decide ((↑a7.length : Int) > (12 : Int)) then some (Err.no (11 : Int)) else (l0.f K K a7 (↑a7.length : Int) (0 : Int) a0 a1 a2 a5).bind fun t => Sum.elim (fun t => (ir_Func_end.f K a5 a6 a8 a9 a10 a11).bind fun t => bif t != (0 : Int) then fault_At.f K (Err.no t) [(↑a7.length : Int)] else some Err.nil) (fun t => some t) t
noncomputable def F (K : Nat) : sig.In → Option (Err) := fun x => f K x.1.1.1 x.1.1.2.1 x.1.1.2.2 x.1.2.1.2.2.1 x.1.2.1.2.2.2 x.1.2.2.1 x.1.2.2.2.1 x.1.2.2.2.2.1 x.1.2.2.2.2.2.1 x.1.2.2.2.2.2.2
noncomputable def cv : sig.In → Err → sig.Ou := fun x r => (r, ())
noncomputable def LP {α : Type} (K : Nat) : LoopsBy α := (lpPut 4 (l0.lp K) noLoops)
theorem eq (K : Nat) (a0 : List Int) (a1 : List LFunc) (a2 : List LImport) (a3 : ByteArray) (a4 : Int) (a5 : Int) (a6 : List LBlock) (a7 : List LInsn) (a8 : Int) (a9 : Int) (a10 : Int) (a11 : Int) : runF M sig (C K) (eqBy M.P) (LP K) RF (CP K) 20 Tryz.f137 (bodyOf Tryz.f137) (((a0, (a1, a2)), ((a3, (a4, (a5, a6))), (a7, (a8, (a9, (a10, a11)))))), ()) = (f K a0 a1 a2 a5 a6 a7 a8 a9 a10 a11).bind fun r => some (cv (((a0, (a1, a2)), ((a3, (a4, (a5, a6))), (a7, (a8, (a9, (a10, a11)))))), ()) r) := by
  unfold f
  try simp only [el]
  kernel_rfl
theorem rets (K : Nat) : ∀ x y, withCv (F K) cv x = some y → Rets M 137 sig x y := fun x y h => runF_rets (L := 20) (C_ok K) (eqBy_ok _) (by kernel_rfl) RF_ok (CP_ok K) (show LoopsOk M 0 (LP K) (loopsOf (bodyOf Tryz.f137)) from (show loopsOf (bodyOf Tryz.f137) = [nthLoop Tryz.f137 0] by kernel_rfl) ▸ (loopsOk_put (key := 4) (by kernel_rfl) (l0.lp_ok K) noLoops_ok (by kernel_rfl))) (Nat.le_of_ble_eq_true rfl) Tryz.func137 (by kernel_rfl) ((eq K x.1.1.1 x.1.1.2.1 x.1.1.2.2 x.1.2.1.1 x.1.2.1.2.1 x.1.2.1.2.2.1 x.1.2.1.2.2.2 x.1.2.2.1 x.1.2.2.2.1 x.1.2.2.2.2.1 x.1.2.2.2.2.2.1 x.1.2.2.2.2.2.2).trans h)
end ir_Module_block
namespace ir_Module_function
/-! ### ir_Module_function: function 92 -/
noncomputable def sig : Sig := ⟨(.cons (.agg (.cons (.ty (.slice yI)) (.cons (.ty (.slice yFunc)) (.ty (.slice yImport))))) (.ty yI)), [], (.ty .err), []⟩
noncomputable def RF : RefitBy := noRefit
theorem RF_ok : RefitOk M 0 RF := noRefit_ok
noncomputable def C {α : Type} (K : Nat) : CallsBy α := (entryD 136 ir_Module_first.sig (ir_Module_first.F K) ir_Module_first.cv (entryD 137 ir_Module_block.sig (ir_Module_block.F K) ir_Module_block.cv (entryD 93 fault_At.sig (fault_At.F K) fault_At.cv noCalls)))
theorem C_ok {α : Type} (K : Nat) : CallsOk (α := α) M (C K) := (entryD_ok (entryD_ok (entryD_ok noCalls_ok (by rfl) Tryz.func93 (by kernel_rfl) rfl (fault_At.rets K)) (by rfl) Tryz.func137 (by kernel_rfl) rfl (ir_Module_block.rets K)) (by rfl) Tryz.func136 (by kernel_rfl) rfl (ir_Module_first.rets K))
noncomputable def CP {α : Type} (K : Nat) : CutBy α := noCuts
theorem CP_ok {α : Type} (K : Nat)  : CutsOk (α := α) M 0 (CP K) := noCuts_ok
noncomputable def l0.h : SSh := ⟨[1, 2, 21, 22, 23], (.cons (.ty yI) (.cons (.ptr 0 0) (.cons (.ty (.slice yBlock)) (.cons (.ty yI) (.ty yI))))), [.cells 35 0 (.cons (.ty (.slice yI)) (.cons (.ty (.slice yFunc)) (.ty (.slice yImport))))]⟩
noncomputable def l0.x : SSh := ⟨[], .unit, []⟩
noncomputable def l0.r : SSh := ⟨[4], (.ty .err), []⟩
noncomputable def l0.cx : l0.h.I → Unit → l0.x.I := fun x r => ((), ())
noncomputable def l0.cr : l0.h.I → Err → l0.r.I := fun x r => (r, ())
noncomputable def l0.f (K : Nat) : Nat → Int → List LBlock → Int → Int → List Int → List LFunc → List LImport → Option ((Unit) ⊕ (Err))
  | 0, _, _, _, _, _, _, _ => none
  | k + 1, a0, a1, a2, a3, a4, a5, a6 => bif decide (a3 < a2) then bif decide ((0 : Int) ≤ a3) && true then a1[a3.toNat]?.bind fun t => bif decide ((0 : Int) ≤ a0) && true then a5[a0.toNat]?.bind fun t_1 => (ir_Module_block.f K a4 a5 a6 t_1.2.2.1 t_1.2.2.2 t.1 t.2.1 t.2.2.1 t.2.2.2.1 t.2.2.2.2).bind fun t => bif bif true then !t.isNil else t.isNil then (fault_At.f K t [a3]).bind fun t => some (Sum.inr t) else l0.f K k a0 a1 a2 (IntKind.i64.wrap (a3 + (1 : Int))) a4 a5 a6 else none else none else some (Sum.inl ())
noncomputable def l0.F (K : Nat) (k : Nat) : l0.h.I → Option ((Unit) ⊕ (Err)) := fun x => l0.f K k x.1.1 x.1.2.2.1 x.1.2.2.2.1 x.1.2.2.2.2 x.2.1.1 x.2.1.2.1 x.2.1.2.2
noncomputable def l0.lp {α : Type} (K : Nat) : St → Kn α → Option α := lpXRD 0 43 0 l0.h l0.x l0.r (l0.F K K) l0.cx l0.cr
noncomputable def l0.c : Code := nthLoop Tryz.f92 0
noncomputable def l0.LP {α : Type} (K : Nat) : LoopsBy α := noLoops
theorem l0.eq (K : Nat) (k : Nat) (a0 : Int) (a1 : List LBlock) (a2 : Int) (a3 : Int) (a4 : List Int) (a5 : List LFunc) (a6 : List LImport) : exec M (C K) (eqBy M.P) (l0.LP K) RF (CP K) 20 l0.c (Kl 0 l0.h (withCv (l0.F K k) (smap l0.cx l0.cr)) (backXR 0 0 l0.x l0.r)) (l0.h.enc 43 ((a0, ((), (a1, (a2, a3)))), ((a4, (a5, a6)), ()))) = (l0.f K (k + 1) a0 a1 a2 a3 a4 a5 a6).bind fun r => some ((smap l0.cx l0.cr) ((a0, ((), (a1, (a2, a3)))), ((a4, (a5, a6)), ())) r) := by
  rw [l0.f]
  try simp only [el]
  kernel_rfl
theorem l0.leads (K : Nat) : ∀ k x y, withCv (l0.F K k) (smap l0.cx l0.cr) x = some y → Leads M 0 (.loop l0.c) (l0.h.enc 43 x) (outXR 43 0 l0.x l0.r y).1 (outXR 43 0 l0.x l0.r y).2 :=
  loopXR_sound (C_ok K) (eqBy_ok _) (by kernel_rfl) RF_ok (CP_ok K) (show LoopsOk M 0 (l0.LP K) (loopsOf l0.c) from (show loopsOf l0.c = [] by kernel_rfl) ▸ (noLoops_ok)) (Nat.le_of_ble_eq_true rfl) (Nat.le_of_ble_eq_true rfl) (Nat.le_of_ble_eq_true rfl) (fun x => rfl) (fun k x => l0.eq K k x.1.1 x.1.2.2.1 x.1.2.2.2.1 x.1.2.2.2.2 x.2.1.1 x.2.1.2.1 x.2.1.2.2)
theorem l0.lp_ok {α : Type} (K : Nat) : LoopOk (α := α) M 0 (nthLoop Tryz.f92 0) (l0.lp K) := lpXRD_ok (Nat.le_of_ble_eq_true rfl) (l0.leads K K)
noncomputable def f (K : Nat) (a0 : List Int) (a1 : List LFunc) (a2 : List LImport) (a3 : Int) : Option (Err) := (ir_Module_first.f K a1 a2 a3).bind fun t => bif t != (0 : Int) then some (Err.no t) else bif decide ((0 : Int) ≤ a3) && true then a1[a3.toNat]?.bind fun t => (l0.f K K a3 t.2.2.2 (↑(List.length t.2.2.2) : Int) (0 : Int) a0 a1 a2).bind fun t => Sum.elim (fun t => some Err.nil) (fun t => some t) t else none
noncomputable def F (K : Nat) : sig.In → Option (Err) := fun x => f K x.1.1.1 x.1.1.2.1 x.1.1.2.2 x.1.2
noncomputable def cv : sig.In → Err → sig.Ou := fun x r => (r, ())
noncomputable def LP {α : Type} (K : Nat) : LoopsBy α := (lpPut 5 (l0.lp K) noLoops)
theorem eq (K : Nat) (a0 : List Int) (a1 : List LFunc) (a2 : List LImport) (a3 : Int) : runF M sig (C K) (eqBy M.P) (LP K) RF (CP K) 20 Tryz.f92 (bodyOf Tryz.f92) (((a0, (a1, a2)), a3), ()) = (f K a0 a1 a2 a3).bind fun r => some (cv (((a0, (a1, a2)), a3), ()) r) := by
  unfold f
  try simp only [el]
  kernel_rfl
theorem rets (K : Nat) : ∀ x y, withCv (F K) cv x = some y → Rets M 92 sig x y := fun x y h => runF_rets (L := 20) (C_ok K) (eqBy_ok _) (by kernel_rfl) RF_ok (CP_ok K) (show LoopsOk M 0 (LP K) (loopsOf (bodyOf Tryz.f92)) from (show loopsOf (bodyOf Tryz.f92) = [nthLoop Tryz.f92 0] by kernel_rfl) ▸ (loopsOk_put (key := 5) (by kernel_rfl) (l0.lp_ok K) noLoops_ok (by kernel_rfl))) (Nat.le_of_ble_eq_true rfl) Tryz.func92 (by kernel_rfl) ((eq K x.1.1.1 x.1.1.2.1 x.1.1.2.2 x.1.2).trans h)
end ir_Module_function
namespace ir_Module_imported
/-! ### ir_Module_imported: function 94 -/
noncomputable def sig : Sig := ⟨(.cons (.agg (.cons (.ty (.slice yI)) (.cons (.ty (.slice yFunc)) (.ty (.slice yImport))))) (.ty yI)), [], (.ty yI), []⟩
noncomputable def RF : RefitBy := noRefit
theorem RF_ok : RefitOk M 0 RF := noRefit_ok
noncomputable def C {α : Type} (K : Nat) : CallsBy α := (entryD 138 ir_named.sig (ir_named.F K) ir_named.cv (entryD 139 ir_Find.sig (ir_Find.F K) ir_Find.cv (entryD 73 ir_within.sig (ir_within.F K) ir_within.cv noCalls)))
theorem C_ok {α : Type} (K : Nat) : CallsOk (α := α) M (C K) := (entryD_ok (entryD_ok (entryD_ok noCalls_ok (by rfl) Tryz.func73 (by kernel_rfl) rfl (ir_within.rets K)) (by rfl) Tryz.func139 (by kernel_rfl) rfl (ir_Find.rets K)) (by rfl) Tryz.func138 (by kernel_rfl) rfl (ir_named.rets K))
noncomputable def CP {α : Type} (K : Nat) : CutBy α := (cpPut 4 (rpCut M bindC [.bool] [16] (C K) (eqBy M.P)) noCuts)
theorem CP_ok {α : Type} (K : Nat)  : CutsOk (α := α) M 0 (CP K) := (cpPut_ok (rpCut_ok (C_ok K) (eqBy_ok _) (by kernel_rfl)) noCuts_ok)
noncomputable def f (K : Nat) (a1 : List LFunc) (a2 : List LImport) (a3 : Int) : Option (Int) := bif decide ((0 : Int) ≤ a3) && true then a2[a3.toNat]?.bind fun t => (ir_named.f K t.1).bind fun t_1 => bif !t_1 then some (6 : Int) else bindC (bif decide (a3 > (0 : Int)) then bif decide ((0 : Int) ≤ IntKind.i64.wrap (a3 - (1 : Int))) && true then a2[(IntKind.i64.wrap (a3 - (1 : Int))).toNat]?.bind fun t_2 => some (Op.bytesLess (ByteArray.toList t.1) (ByteArray.toList t_2.1) || ByteArray.toList t.1 == ByteArray.toList t_2.1) else none else some false) fun t_2 => bif t_2 then some (3 : Int) else (ir_Find.f K a1 a2 t.1).bind fun t_3 => bif decide (t_3 < (↑a1.length : Int)) then some (7 : Int) else (ir_within.f K t.2 (5 : Int)).bind fun t => bif !t then some (10 : Int) else some (0 : Int) else none
noncomputable def F (K : Nat) : sig.In → Option (Int) := fun x => f K x.1.1.2.1 x.1.1.2.2 x.1.2
noncomputable def cv : sig.In → Int → sig.Ou := fun x r => (r, ())
noncomputable def LP {α : Type} (K : Nat) : LoopsBy α := noLoops
theorem eq (K : Nat) (a0 : List Int) (a1 : List LFunc) (a2 : List LImport) (a3 : Int) : runF M sig (C K) (eqBy M.P) (LP K) RF (CP K) 20 Tryz.f94 (bodyOf Tryz.f94) (((a0, (a1, a2)), a3), ()) = (f K a1 a2 a3).bind fun r => some (cv (((a0, (a1, a2)), a3), ()) r) := by
  unfold f
  try simp only [el]
  kernel_rfl
theorem rets (K : Nat) : ∀ x y, withCv (F K) cv x = some y → Rets M 94 sig x y := fun x y h => runF_rets (L := 20) (C_ok K) (eqBy_ok _) (by kernel_rfl) RF_ok (CP_ok K) (show LoopsOk M 0 (LP K) (loopsOf (bodyOf Tryz.f94)) from (show loopsOf (bodyOf Tryz.f94) = [] by kernel_rfl) ▸ noLoops_ok) (Nat.le_of_ble_eq_true rfl) Tryz.func94 (by kernel_rfl) ((eq K x.1.1.1 x.1.1.2.1 x.1.1.2.2 x.1.2).trans h)
end ir_Module_imported
namespace ir_Check
/-! ### ir_Check: function 38 -/
noncomputable def sig : Sig := ⟨(.agg (.cons (.ty (.slice yI)) (.cons (.ty (.slice yFunc)) (.ty (.slice yImport))))), [], (.ty .err), []⟩
noncomputable def RF : RefitBy := noRefit
theorem RF_ok : RefitOk M 0 RF := noRefit_ok
noncomputable def C {α : Type} (K : Nat) : CallsBy α := (entryD 92 ir_Module_function.sig (ir_Module_function.F K) ir_Module_function.cv (entryD 93 fault_At.sig (fault_At.F K) fault_At.cv (entryD 94 ir_Module_imported.sig (ir_Module_imported.F K) ir_Module_imported.cv noCalls)))
theorem C_ok {α : Type} (K : Nat) : CallsOk (α := α) M (C K) := (entryD_ok (entryD_ok (entryD_ok noCalls_ok (by rfl) Tryz.func94 (by kernel_rfl) rfl (ir_Module_imported.rets K)) (by rfl) Tryz.func93 (by kernel_rfl) rfl (fault_At.rets K)) (by rfl) Tryz.func92 (by kernel_rfl) rfl (ir_Module_function.rets K))
noncomputable def CP {α : Type} (K : Nat) : CutBy α := (cpPut 1 (rpCut M bindC [.bool] [20] (C K) (eqBy M.P)) noCuts)
theorem CP_ok {α : Type} (K : Nat)  : CutsOk (α := α) M 0 (CP K) := (cpPut_ok (rpCut_ok (C_ok K) (eqBy_ok _) (by kernel_rfl)) noCuts_ok)
noncomputable def l1.h : SSh := ⟨[1, 40, 41], (.cons (.ptr 0 0) (.cons (.ty yI) (.ty yI))), [.cells 35 0 (.cons (.ty (.slice yI)) (.cons (.ty (.slice yFunc)) (.ty (.slice yImport))))]⟩
noncomputable def l1.x : SSh := ⟨[], .unit, []⟩
noncomputable def l1.r : SSh := ⟨[2], (.ty .err), []⟩
noncomputable def l1.cx : l1.h.I → Unit → l1.x.I := fun x r => ((), ())
noncomputable def l1.cr : l1.h.I → Err → l1.r.I := fun x r => (r, ())
noncomputable def l1.f (K : Nat) : Nat → Int → Int → List LFunc → List LImport → Option ((Unit) ⊕ (Err))
  | 0, _, _, _, _ => none
  | k + 1, a0, a1, a3, a4 => bif decide (a1 < a0) then (ir_Module_imported.f K a3 a4 a1).bind fun t => bif t != (0 : Int) then (fault_At.f K (Err.no t) [IntKind.i64.wrap ((↑a3.length : Int) + a1)]).bind fun t => some (Sum.inr t) else l1.f K k a0 (IntKind.i64.wrap (a1 + (1 : Int))) a3 a4 else some (Sum.inl ())
noncomputable def l1.F (K : Nat) (k : Nat) : l1.h.I → Option ((Unit) ⊕ (Err)) := fun x => l1.f K k x.1.2.1 x.1.2.2 x.2.1.2.1 x.2.1.2.2
noncomputable def l1.lp {α : Type} (K : Nat) : St → Kn α → Option α := lpXRD 0 59 2 l1.h l1.x l1.r (l1.F K K) l1.cx l1.cr
noncomputable def l1.c : Code := nthLoop Tryz.f38 1
noncomputable def l1.LP {α : Type} (K : Nat) : LoopsBy α := noLoops
theorem l1.eq (K : Nat) (k : Nat) (a0 : Int) (a1 : Int) (a2 : List Int) (a3 : List LFunc) (a4 : List LImport) : exec M (C K) (eqBy M.P) (l1.LP K) RF (CP K) 20 l1.c (Kl 0 l1.h (withCv (l1.F K k) (smap l1.cx l1.cr)) (backXR 0 2 l1.x l1.r)) (l1.h.enc 59 (((), (a0, a1)), ((a2, (a3, a4)), ()))) = (l1.f K (k + 1) a0 a1 a3 a4).bind fun r => some ((smap l1.cx l1.cr) (((), (a0, a1)), ((a2, (a3, a4)), ())) r) := by
  rw [l1.f]
  try simp only [el]
  kernel_rfl
theorem l1.leads (K : Nat) : ∀ k x y, withCv (l1.F K k) (smap l1.cx l1.cr) x = some y → Leads M 0 (.loop l1.c) (l1.h.enc 59 x) (outXR 59 2 l1.x l1.r y).1 (outXR 59 2 l1.x l1.r y).2 :=
  loopXR_sound (C_ok K) (eqBy_ok _) (by kernel_rfl) RF_ok (CP_ok K) (show LoopsOk M 0 (l1.LP K) (loopsOf l1.c) from (show loopsOf l1.c = [] by kernel_rfl) ▸ (noLoops_ok)) (Nat.le_of_ble_eq_true rfl) (Nat.le_of_ble_eq_true rfl) (Nat.le_of_ble_eq_true rfl) (fun x => rfl) (fun k x => l1.eq K k x.1.2.1 x.1.2.2 x.2.1.1 x.2.1.2.1 x.2.1.2.2)
theorem l1.lp_ok {α : Type} (K : Nat) : LoopOk (α := α) M 0 (nthLoop Tryz.f38 1) (l1.lp K) := lpXRD_ok (Nat.le_of_ble_eq_true rfl) (l1.leads K K)
noncomputable def l0.h : SSh := ⟨[1, 24, 25], (.cons (.ptr 0 0) (.cons (.ty yI) (.ty yI))), [.cells 35 0 (.cons (.ty (.slice yI)) (.cons (.ty (.slice yFunc)) (.ty (.slice yImport))))]⟩
noncomputable def l0.x : SSh := ⟨[1], (.ptr 0 0), [.cells 35 0 (.cons (.ty (.slice yI)) (.cons (.ty (.slice yFunc)) (.ty (.slice yImport))))]⟩
noncomputable def l0.r : SSh := ⟨[2], (.ty .err), []⟩
noncomputable def l0.cx : l0.h.I → Unit → l0.x.I := fun x r => ((), ((x.2.1.1, (x.2.1.2.1, x.2.1.2.2)), ()))
noncomputable def l0.cr : l0.h.I → Err → l0.r.I := fun x r => (r, ())
noncomputable def l0.f (K : Nat) : Nat → Int → Int → List Int → List LFunc → List LImport → Option ((Unit) ⊕ (Err))
  | 0, _, _, _, _, _ => none
  | k + 1, a0, a1, a2, a3, a4 => bif decide (a1 < a0) then (ir_Module_function.f K a2 a3 a4 a1).bind fun t => bif bif true then !t.isNil else t.isNil then (fault_At.f K t [a1]).bind fun t => some (Sum.inr t) else l0.f K k a0 (IntKind.i64.wrap (a1 + (1 : Int))) a2 a3 a4 else some (Sum.inl ())
noncomputable def l0.F (K : Nat) (k : Nat) : l0.h.I → Option ((Unit) ⊕ (Err)) := fun x => l0.f K k x.1.2.1 x.1.2.2 x.2.1.1 x.2.1.2.1 x.2.1.2.2
noncomputable def l0.lp {α : Type} (K : Nat) : St → Kn α → Option α := lpXRD 0 59 0 l0.h l0.x l0.r (l0.F K K) l0.cx l0.cr
noncomputable def l0.c : Code := nthLoop Tryz.f38 0
noncomputable def l0.LP {α : Type} (K : Nat) : LoopsBy α := noLoops
theorem l0.eq (K : Nat) (k : Nat) (a0 : Int) (a1 : Int) (a2 : List Int) (a3 : List LFunc) (a4 : List LImport) : exec M (C K) (eqBy M.P) (l0.LP K) RF (CP K) 20 l0.c (Kl 0 l0.h (withCv (l0.F K k) (smap l0.cx l0.cr)) (backXR 0 0 l0.x l0.r)) (l0.h.enc 59 (((), (a0, a1)), ((a2, (a3, a4)), ()))) = (l0.f K (k + 1) a0 a1 a2 a3 a4).bind fun r => some ((smap l0.cx l0.cr) (((), (a0, a1)), ((a2, (a3, a4)), ())) r) := by
  rw [l0.f]
  try simp only [el]
  kernel_rfl
theorem l0.leads (K : Nat) : ∀ k x y, withCv (l0.F K k) (smap l0.cx l0.cr) x = some y → Leads M 0 (.loop l0.c) (l0.h.enc 59 x) (outXR 59 0 l0.x l0.r y).1 (outXR 59 0 l0.x l0.r y).2 :=
  loopXR_sound (C_ok K) (eqBy_ok _) (by kernel_rfl) RF_ok (CP_ok K) (show LoopsOk M 0 (l0.LP K) (loopsOf l0.c) from (show loopsOf l0.c = [] by kernel_rfl) ▸ (noLoops_ok)) (Nat.le_of_ble_eq_true rfl) (Nat.le_of_ble_eq_true rfl) (Nat.le_of_ble_eq_true rfl) (fun x => rfl) (fun k x => l0.eq K k x.1.2.1 x.1.2.2 x.2.1.1 x.2.1.2.1 x.2.1.2.2)
theorem l0.lp_ok {α : Type} (K : Nat) : LoopOk (α := α) M 0 (nthLoop Tryz.f38 0) (l0.lp K) := lpXRD_ok (Nat.le_of_ble_eq_true rfl) (l0.leads K K)
noncomputable def f (K : Nat) (a0 : List Int) (a1 : List LFunc) (a2 : List LImport) : Option (Err) := bindC (bif decide ((↑a0.length : Int) > (16 : Int)) then some true else some (decide (IntKind.i64.wrap ((↑a1.length : Int) + (↑a2.length : Int)) > (24 : Int)))) fun t => bif t then some (Err.no (11 : Int)) else (l0.f K K (↑a1.length : Int) (0 : Int) a0 a1 a2).bind fun t => Sum.elim (fun t => (l1.f K K (↑a2.length : Int) (0 : Int) a1 a2).bind fun t => Sum.elim (fun t => some Err.nil) (fun t => some t) t) (fun t => some t) t
noncomputable def F (K : Nat) : sig.In → Option (Err) := fun x => f K x.1.1 x.1.2.1 x.1.2.2
noncomputable def cv : sig.In → Err → sig.Ou := fun x r => (r, ())
noncomputable def LP {α : Type} (K : Nat) : LoopsBy α := (lpPut 4 (l0.lp K) (lpPut 11 (l1.lp K) noLoops))
theorem eq (K : Nat) (a0 : List Int) (a1 : List LFunc) (a2 : List LImport) : runF M sig (C K) (eqBy M.P) (LP K) RF (CP K) 20 Tryz.f38 (bodyOf Tryz.f38) ((a0, (a1, a2)), ()) = (f K a0 a1 a2).bind fun r => some (cv ((a0, (a1, a2)), ()) r) := by
  unfold f
  try simp only [el]
  kernel_rfl
theorem rets (K : Nat) : ∀ x y, withCv (F K) cv x = some y → Rets M 38 sig x y := fun x y h => runF_rets (L := 20) (C_ok K) (eqBy_ok _) (by kernel_rfl) RF_ok (CP_ok K) (show LoopsOk M 0 (LP K) (loopsOf (bodyOf Tryz.f38)) from (show loopsOf (bodyOf Tryz.f38) = [nthLoop Tryz.f38 0, nthLoop Tryz.f38 1] by kernel_rfl) ▸ (loopsOk_put (key := 4) (by kernel_rfl) (l0.lp_ok K) (loopsOk_put (key := 11) (by kernel_rfl) (l1.lp_ok K) noLoops_ok (by kernel_rfl)) (by kernel_rfl))) (Nat.le_of_ble_eq_true rfl) Tryz.func38 (by kernel_rfl) ((eq K x.1.1 x.1.2.1 x.1.2.2).trans h)
end ir_Check
namespace wire_New
/-! ### wire_New: function 39 -/
noncomputable def sig : Sig := ⟨.unit, [], (.ptr 0 0), [.cells 188 0 (.own 1), .list 5 (.int .u8) []]⟩
noncomputable def RF : RefitBy := noRefit
theorem RF_ok : RefitOk M 0 RF := noRefit_ok
noncomputable def C {α : Type} (K : Nat) : CallsBy α := noCalls
theorem C_ok {α : Type} (K : Nat) : CallsOk (α := α) M (C K) := noCalls_ok
noncomputable def CP {α : Type} (K : Nat) : CutBy α := noCuts
theorem CP_ok {α : Type} (K : Nat)  : CutsOk (α := α) M 0 (CP K) := noCuts_ok
noncomputable def f (K : Nat) : Option (List Int) := some []
noncomputable def F (K : Nat) : sig.In → Option (List Int) := fun x => f K
noncomputable def cv : sig.In → (List Int) → sig.Ou := fun x r => ((), ((), (r, ())))
noncomputable def LP {α : Type} (K : Nat) : LoopsBy α := noLoops
theorem eq (K : Nat) : runF M sig (C K) (eqBy M.P) (LP K) RF (CP K) 20 Tryz.f39 (bodyOf Tryz.f39) ((), ()) = (f K).bind fun r => some (cv ((), ()) r) := by
  unfold f
  try simp only [el]
  kernel_rfl
theorem rets (K : Nat) : ∀ x y, withCv (F K) cv x = some y → Rets M 39 sig x y := fun x y h => runF_rets (L := 20) (C_ok K) (eqBy_ok _) (by kernel_rfl) RF_ok (CP_ok K) (show LoopsOk M 0 (LP K) (loopsOf (bodyOf Tryz.f39)) from (show loopsOf (bodyOf Tryz.f39) = [] by kernel_rfl) ▸ noLoops_ok) (Nat.le_of_ble_eq_true rfl) Tryz.func39 (by kernel_rfl) ((eq K).trans h)
end wire_New
namespace wire_Writer_Raw
/-! ### wire_Writer_Raw: function 40 -/
noncomputable def sig : Sig := ⟨(.cons (.ptr 0 0) (.ty (.slice (.int .u8)))), [.cells 188 0 (.own 1), .list 5 (.int .u8) []], .unit, [.cells 188 0 (.own 2), .dead, .list 5 (.int .u8) []]⟩
noncomputable def RF : RefitBy := noRefit
theorem RF_ok : RefitOk M 2 RF := noRefit_ok
noncomputable def C {α : Type} (K : Nat) : CallsBy α := noCalls
theorem C_ok {α : Type} (K : Nat) : CallsOk (α := α) M (C K) := noCalls_ok
noncomputable def CP {α : Type} (K : Nat) : CutBy α := noCuts
theorem CP_ok {α : Type} (K : Nat)  : CutsOk (α := α) M 2 (CP K) := noCuts_ok
noncomputable def f (K : Nat) (a0 : List Int) (a1 : List Int) : Option (List Int) := bif (a1.length + a0.length).ble (100000 : Nat) then some (a1 ++ a0) else none
noncomputable def F (K : Nat) : sig.In → Option (List Int) := fun x => f K x.1.2 x.2.2.1
noncomputable def cv : sig.In → (List Int) → sig.Ou := fun x r => ((), ((), ((), (r, ()))))
noncomputable def LP {α : Type} (K : Nat) : LoopsBy α := noLoops
theorem eq (K : Nat) (a0 : List Int) (a1 : List Int) : runF M sig (C K) (eqBy M.P) (LP K) RF (CP K) 20 Tryz.f40 (bodyOf Tryz.f40) (((), a0), ((), (a1, ()))) = (f K a0 a1).bind fun r => some (cv (((), a0), ((), (a1, ()))) r) := by
  unfold f
  try simp only [el]
  kernel_rfl
theorem rets (K : Nat) : ∀ x y, withCv (F K) cv x = some y → Rets M 40 sig x y := fun x y h => runF_rets (L := 20) (C_ok K) (eqBy_ok _) (by kernel_rfl) RF_ok (CP_ok K) (show LoopsOk M 2 (LP K) (loopsOf (bodyOf Tryz.f40)) from (show loopsOf (bodyOf Tryz.f40) = [] by kernel_rfl) ▸ noLoops_ok) (Nat.le_of_ble_eq_true rfl) Tryz.func40 (by kernel_rfl) ((eq K x.1.2 x.2.2.1).trans h)
end wire_Writer_Raw
namespace wire_Writer_Byte
/-! ### wire_Writer_Byte: function 95 -/
noncomputable def sig : Sig := ⟨(.cons (.ptr 0 0) (.ty (.int .u8))), [.cells 188 0 (.own 1), .list 5 (.int .u8) []], .unit, [.cells 188 0 (.own 2), .dead, .list 5 (.int .u8) []]⟩
noncomputable def RF : RefitBy := noRefit
theorem RF_ok : RefitOk M 2 RF := noRefit_ok
noncomputable def C {α : Type} (K : Nat) : CallsBy α := noCalls
theorem C_ok {α : Type} (K : Nat) : CallsOk (α := α) M (C K) := noCalls_ok
noncomputable def CP {α : Type} (K : Nat) : CutBy α := noCuts
theorem CP_ok {α : Type} (K : Nat)  : CutsOk (α := α) M 2 (CP K) := noCuts_ok
noncomputable def f (K : Nat) (a0 : Int) (a1 : List Int) : Option (List Int) := bif (a1.length + [a0].length).ble (100000 : Nat) then some (a1 ++ [a0]) else none
noncomputable def F (K : Nat) : sig.In → Option (List Int) := fun x => f K x.1.2 x.2.2.1
noncomputable def cv : sig.In → (List Int) → sig.Ou := fun x r => ((), ((), ((), (r, ()))))
noncomputable def LP {α : Type} (K : Nat) : LoopsBy α := noLoops
theorem eq (K : Nat) (a0 : Int) (a1 : List Int) : runF M sig (C K) (eqBy M.P) (LP K) RF (CP K) 20 Tryz.f95 (bodyOf Tryz.f95) (((), a0), ((), (a1, ()))) = (f K a0 a1).bind fun r => some (cv (((), a0), ((), (a1, ()))) r) := by
  unfold f
  try simp only [el]
  kernel_rfl
theorem rets (K : Nat) : ∀ x y, withCv (F K) cv x = some y → Rets M 95 sig x y := fun x y h => runF_rets (L := 20) (C_ok K) (eqBy_ok _) (by kernel_rfl) RF_ok (CP_ok K) (show LoopsOk M 2 (LP K) (loopsOf (bodyOf Tryz.f95)) from (show loopsOf (bodyOf Tryz.f95) = [] by kernel_rfl) ▸ noLoops_ok) (Nat.le_of_ble_eq_true rfl) Tryz.func95 (by kernel_rfl) ((eq K x.1.2 x.2.2.1).trans h)
end wire_Writer_Byte
namespace wire_Writer_Uint
/-! ### wire_Writer_Uint: function 41 -/
noncomputable def sig : Sig := ⟨(.cons (.ptr 0 0) (.ty (.int .u64))), [.cells 188 0 (.own 1), .list 5 (.int .u8) []], .unit, [.cells 188 0 (.own 2), .dead, .list 5 (.int .u8) []]⟩
noncomputable def RF : RefitBy := noRefit
theorem RF_ok : RefitOk M 2 RF := noRefit_ok
noncomputable def C {α : Type} (K : Nat) : CallsBy α := (entryD 95 wire_Writer_Byte.sig (wire_Writer_Byte.F K) wire_Writer_Byte.cv noCalls)
theorem C_ok {α : Type} (K : Nat) : CallsOk (α := α) M (C K) := (entryD_ok noCalls_ok (by rfl) Tryz.func95 (by kernel_rfl) rfl (wire_Writer_Byte.rets K))
noncomputable def CP {α : Type} (K : Nat) : CutBy α := noCuts
theorem CP_ok {α : Type} (K : Nat)  : CutsOk (α := α) M 2 (CP K) := noCuts_ok
noncomputable def l0.h : SSh := ⟨[0, 1], (.cons (.ptr 0 0) (.ty (.int .u64))), [.cells 188 0 (.own 2), .dead, .list 5 (.int .u8) []]⟩
noncomputable def l0.x : SSh := ⟨[0, 1], (.cons (.ptr 0 0) (.ty (.int .u64))), [.cells 188 0 (.own 2), .dead, .list 5 (.int .u8) []]⟩
noncomputable def l0.cx : l0.h.I → (Int × List Int) → l0.x.I := fun x r => (((), r.1), ((), ((), (r.2, ()))))
noncomputable def l0.f (K : Nat) : Nat → Int → List Int → Option (Int × List Int)
  | 0, _, _ => none
  | k + 1, a0, a1 => bif decide (a0 > (127 : Int)) then (wire_Writer_Byte.f K (IntKind.u8.wrap (↑(BitVec.ofInt (8 : Nat) (IntKind.u8.wrap (IntKind.u64.wrap (↑(BitVec.ofInt (64 : Nat) a0 &&& BitVec.ofInt (64 : Nat) (127 : Int)).toNat : Int))) ||| BitVec.ofInt (8 : Nat) (128 : Int)).toNat : Int)) a1).bind fun t => l0.f K k (a0.fdiv ((2 : Int) ^ (7 : Nat))) t else some (a0, a1)
noncomputable def l0.F (K : Nat) (k : Nat) : l0.h.I → Option (Int × List Int) := fun x => l0.f K k x.1.2 x.2.2.2.1
noncomputable def l0.lp {α : Type} (K : Nat) : St → Kn α → Option α := lpX 2 18 0 l0.h l0.x (l0.F K K) l0.cx
noncomputable def l0.c : Code := nthLoop Tryz.f41 0
noncomputable def l0.LP {α : Type} (K : Nat) : LoopsBy α := noLoops
theorem l0.eq (K : Nat) (k : Nat) (a0 : Int) (a1 : List Int) : exec M (C K) (eqBy M.P) (l0.LP K) RF (CP K) 20 l0.c (Kl 2 l0.h (withCv (l0.F K k) l0.cx) (backX 2 18 0 l0.x)) (l0.h.enc 18 (((), a0), ((), ((), (a1, ()))))) = (l0.f K (k + 1) a0 a1).bind fun r => some (l0.cx (((), a0), ((), ((), (a1, ())))) r) := by
  rw [l0.f]
  try simp only [el]
  kernel_rfl
theorem l0.leads (K : Nat) : ∀ k x y, withCv (l0.F K k) l0.cx x = some y → Leads M 2 (.loop l0.c) (l0.h.enc 18 x) (outX 18 0 l0.x y).1 (outX 18 0 l0.x y).2 :=
  loopX_sound (C_ok K) (eqBy_ok _) (by kernel_rfl) RF_ok (CP_ok K) (show LoopsOk M 2 (l0.LP K) (loopsOf l0.c) from (show loopsOf l0.c = [] by kernel_rfl) ▸ (noLoops_ok)) (Nat.le_of_ble_eq_true rfl) (Nat.le_of_ble_eq_true rfl) (fun x => rfl) (fun k x => l0.eq K k x.1.2 x.2.2.2.1)
theorem l0.lp_ok {α : Type} (K : Nat) : LoopOk (α := α) M 2 (nthLoop Tryz.f41 0) (l0.lp K) := lpX_ok (Nat.le_of_ble_eq_true rfl) (l0.leads K K)
noncomputable def f (K : Nat) (a0 : Int) (a1 : List Int) : Option (List Int) := (l0.f K K a0 a1).bind fun t => wire_Writer_Byte.f K (IntKind.u8.wrap t.1) t.2
noncomputable def F (K : Nat) : sig.In → Option (List Int) := fun x => f K x.1.2 x.2.2.1
noncomputable def cv : sig.In → (List Int) → sig.Ou := fun x r => ((), ((), ((), (r, ()))))
noncomputable def LP {α : Type} (K : Nat) : LoopsBy α := (lpPut 0 (l0.lp K) noLoops)
theorem eq (K : Nat) (a0 : Int) (a1 : List Int) : runF M sig (C K) (eqBy M.P) (LP K) RF (CP K) 20 Tryz.f41 (bodyOf Tryz.f41) (((), a0), ((), (a1, ()))) = (f K a0 a1).bind fun r => some (cv (((), a0), ((), (a1, ()))) r) := by
  unfold f
  try simp only [el]
  kernel_rfl
theorem rets (K : Nat) : ∀ x y, withCv (F K) cv x = some y → Rets M 41 sig x y := fun x y h => runF_rets (L := 20) (C_ok K) (eqBy_ok _) (by kernel_rfl) RF_ok (CP_ok K) (show LoopsOk M 2 (LP K) (loopsOf (bodyOf Tryz.f41)) from (show loopsOf (bodyOf Tryz.f41) = [nthLoop Tryz.f41 0] by kernel_rfl) ▸ (loopsOk_put (key := 0) (by kernel_rfl) (l0.lp_ok K) noLoops_ok (by kernel_rfl))) (Nat.le_of_ble_eq_true rfl) Tryz.func41 (by kernel_rfl) ((eq K x.1.2 x.2.2.1).trans h)
end wire_Writer_Uint
namespace wire_Writer_Int
/-! ### wire_Writer_Int: function 42 -/
noncomputable def sig : Sig := ⟨(.cons (.ptr 0 0) (.ty yI)), [.cells 188 0 (.own 1), .list 5 (.int .u8) []], .unit, [.cells 188 0 (.own 2), .dead, .list 5 (.int .u8) []]⟩
noncomputable def RF : RefitBy := noRefit
theorem RF_ok : RefitOk M 2 RF := noRefit_ok
noncomputable def C {α : Type} (K : Nat) : CallsBy α := (entryD 41 wire_Writer_Uint.sig (wire_Writer_Uint.F K) wire_Writer_Uint.cv noCalls)
theorem C_ok {α : Type} (K : Nat) : CallsOk (α := α) M (C K) := (entryD_ok noCalls_ok (by rfl) Tryz.func41 (by kernel_rfl) rfl (wire_Writer_Uint.rets K))
noncomputable def CP {α : Type} (K : Nat) : CutBy α := noCuts
theorem CP_ok {α : Type} (K : Nat)  : CutsOk (α := α) M 2 (CP K) := noCuts_ok
noncomputable def f (K : Nat) (a0 : Int) (a1 : List Int) : Option (List Int) := wire_Writer_Uint.f K (IntKind.u64.wrap (↑(BitVec.ofInt (64 : Nat) (IntKind.u64.wrap (IntKind.u64.wrap a0 * (2 : Int) ^ (1 : Nat))) ^^^ BitVec.ofInt (64 : Nat) (IntKind.u64.wrap (a0.fdiv ((2 : Int) ^ (63 : Nat))))).toNat : Int)) a1
noncomputable def F (K : Nat) : sig.In → Option (List Int) := fun x => f K x.1.2 x.2.2.1
noncomputable def cv : sig.In → (List Int) → sig.Ou := fun x r => ((), ((), ((), (r, ()))))
noncomputable def LP {α : Type} (K : Nat) : LoopsBy α := noLoops
theorem eq (K : Nat) (a0 : Int) (a1 : List Int) : runF M sig (C K) (eqBy M.P) (LP K) RF (CP K) 20 Tryz.f42 (bodyOf Tryz.f42) (((), a0), ((), (a1, ()))) = (f K a0 a1).bind fun r => some (cv (((), a0), ((), (a1, ()))) r) := by
  unfold f
  try simp only [el]
  kernel_rfl
theorem rets (K : Nat) : ∀ x y, withCv (F K) cv x = some y → Rets M 42 sig x y := fun x y h => runF_rets (L := 20) (C_ok K) (eqBy_ok _) (by kernel_rfl) RF_ok (CP_ok K) (show LoopsOk M 2 (LP K) (loopsOf (bodyOf Tryz.f42)) from (show loopsOf (bodyOf Tryz.f42) = [] by kernel_rfl) ▸ noLoops_ok) (Nat.le_of_ble_eq_true rfl) Tryz.func42 (by kernel_rfl) ((eq K x.1.2 x.2.2.1).trans h)
end wire_Writer_Int
namespace wire_Writer_Section
/-! ### wire_Writer_Section: function 44 -/
noncomputable def sig : Sig := ⟨(.cons (.ptr 0 0) (.ty (.slice (.int .u8)))), [.cells 188 0 (.own 1), .list 5 (.int .u8) []], .unit, [.cells 188 0 (.own 2), .dead, .list 5 (.int .u8) []]⟩
noncomputable def RF : RefitBy := noRefit
theorem RF_ok : RefitOk M 2 RF := noRefit_ok
noncomputable def C {α : Type} (K : Nat) : CallsBy α := (entryD 41 wire_Writer_Uint.sig (wire_Writer_Uint.F K) wire_Writer_Uint.cv (entryD 40 wire_Writer_Raw.sig (wire_Writer_Raw.F K) wire_Writer_Raw.cv noCalls))
theorem C_ok {α : Type} (K : Nat) : CallsOk (α := α) M (C K) := (entryD_ok (entryD_ok noCalls_ok (by rfl) Tryz.func40 (by kernel_rfl) rfl (wire_Writer_Raw.rets K)) (by rfl) Tryz.func41 (by kernel_rfl) rfl (wire_Writer_Uint.rets K))
noncomputable def CP {α : Type} (K : Nat) : CutBy α := noCuts
theorem CP_ok {α : Type} (K : Nat)  : CutsOk (α := α) M 2 (CP K) := noCuts_ok
noncomputable def f (K : Nat) (a0 : List Int) (a1 : List Int) : Option (List Int) := (wire_Writer_Uint.f K (IntKind.u64.wrap (↑a0.length : Int)) a1).bind fun t => wire_Writer_Raw.f K a0 t
noncomputable def F (K : Nat) : sig.In → Option (List Int) := fun x => f K x.1.2 x.2.2.1
noncomputable def cv : sig.In → (List Int) → sig.Ou := fun x r => ((), ((), ((), (r, ()))))
noncomputable def LP {α : Type} (K : Nat) : LoopsBy α := noLoops
theorem eq (K : Nat) (a0 : List Int) (a1 : List Int) : runF M sig (C K) (eqBy M.P) (LP K) RF (CP K) 20 Tryz.f44 (bodyOf Tryz.f44) (((), a0), ((), (a1, ()))) = (f K a0 a1).bind fun r => some (cv (((), a0), ((), (a1, ()))) r) := by
  unfold f
  try simp only [el]
  kernel_rfl
theorem rets (K : Nat) : ∀ x y, withCv (F K) cv x = some y → Rets M 44 sig x y := fun x y h => runF_rets (L := 20) (C_ok K) (eqBy_ok _) (by kernel_rfl) RF_ok (CP_ok K) (show LoopsOk M 2 (LP K) (loopsOf (bodyOf Tryz.f44)) from (show loopsOf (bodyOf Tryz.f44) = [] by kernel_rfl) ▸ noLoops_ok) (Nat.le_of_ble_eq_true rfl) Tryz.func44 (by kernel_rfl) ((eq K x.1.2 x.2.2.1).trans h)
end wire_Writer_Section
namespace code_of
/-! ### code_of: function 140 -/
noncomputable def sig : Sig := ⟨(.ty yI), [], (.cons (.agg (.cons (.ty .bool) (.cons (.ty .bool) (.cons (.ty .bool) (.ty yI))))) (.ty .bool)), []⟩
noncomputable def RF : RefitBy := noRefit
theorem RF_ok : RefitOk M 0 RF := noRefit_ok
noncomputable def C {α : Type} (K : Nat) : CallsBy α := noCalls
theorem C_ok {α : Type} (K : Nat) : CallsOk (α := α) M (C K) := noCalls_ok
noncomputable def CP {α : Type} (K : Nat) : CutBy α := noCuts
theorem CP_ok {α : Type} (K : Nat)  : CutsOk (α := α) M 0 (CP K) := noCuts_ok
noncomputable def f (K : Nat) (a0 : Int) : Option (Bool × Bool × Bool × Int × Bool) := bif a0 == (1 : Int) then some (true, false, false, (7 : Int), true) else bif a0 == (15 : Int) then some (true, false, false, (7 : Int), true) else bif a0 == (2 : Int) then some (true, true, false, (7 : Int), true) else bif a0 == (3 : Int) then some (true, true, false, (7 : Int), true) else bif a0 == (4 : Int) then some (true, true, true, (7 : Int), true) else bif a0 == (5 : Int) then some (true, true, true, (7 : Int), true) else bif a0 == (6 : Int) then some (true, true, true, (7 : Int), true) else bif a0 == (7 : Int) then some (true, true, true, (7 : Int), true) else bif a0 == (8 : Int) then some (true, true, true, (7 : Int), true) else bif a0 == (9 : Int) then some (true, true, true, (7 : Int), true) else bif a0 == (10 : Int) then some (true, true, true, (7 : Int), true) else bif a0 == (11 : Int) then some (true, true, true, (7 : Int), true) else bif a0 == (12 : Int) then some (true, true, true, (7 : Int), true) else bif a0 == (13 : Int) then some (true, false, true, (15 : Int), true) else bif a0 == (14 : Int) then some (false, true, true, (15 : Int), true) else bif a0 == (16 : Int) then some (false, true, false, (7 : Int), true) else bif a0 == (17 : Int) then some (true, false, true, (23 : Int), true) else some (false, false, false, (0 : Int), false)
noncomputable def F (K : Nat) : sig.In → Option (Bool × Bool × Bool × Int × Bool) := fun x => f K x.1
noncomputable def cv : sig.In → (Bool × Bool × Bool × Int × Bool) → sig.Ou := fun x r => (((r.1, (r.2.1, (r.2.2.1, r.2.2.2.1))), r.2.2.2.2), ())
noncomputable def LP {α : Type} (K : Nat) : LoopsBy α := noLoops
theorem eq (K : Nat) (a0 : Int) : runF M sig (C K) (eqBy M.P) (LP K) RF (CP K) 20 Tryz.f140 (bodyOf Tryz.f140) (a0, ()) = (f K a0).bind fun r => some (cv (a0, ()) r) := by
  unfold f
  try simp only [el]
  kernel_rfl
theorem rets (K : Nat) : ∀ x y, withCv (F K) cv x = some y → Rets M 140 sig x y := fun x y h => runF_rets (L := 20) (C_ok K) (eqBy_ok _) (by kernel_rfl) RF_ok (CP_ok K) (show LoopsOk M 0 (LP K) (loopsOf (bodyOf Tryz.f140)) from (show loopsOf (bodyOf Tryz.f140) = [] by kernel_rfl) ▸ noLoops_ok) (Nat.le_of_ble_eq_true rfl) Tryz.func140 (by kernel_rfl) ((eq K x.1).trans h)
end code_of
namespace code_putInsn
/-! ### code_putInsn: function 96 -/
noncomputable def sig : Sig := ⟨(.cons (.ptr 0 0) (.agg (.cons (.ty yI) (.cons (.ty yI) (.cons (.ty yI) (.cons (.ty yI) (.cons (.ty yI) (.ty (.slice yI))))))))), [.cells 188 0 (.own 1), .list 5 (.int .u8) []], .unit, [.cells 188 0 (.own 2), .dead, .list 5 (.int .u8) []]⟩
noncomputable def RF : RefitBy := noRefit
theorem RF_ok : RefitOk M 2 RF := noRefit_ok
noncomputable def C {α : Type} (K : Nat) : CallsBy α := (entryD 140 code_of.sig (code_of.F K) code_of.cv (entryD 95 wire_Writer_Byte.sig (wire_Writer_Byte.F K) wire_Writer_Byte.cv (entryD 41 wire_Writer_Uint.sig (wire_Writer_Uint.F K) wire_Writer_Uint.cv (entryD 42 wire_Writer_Int.sig (wire_Writer_Int.F K) wire_Writer_Int.cv noCalls))))
theorem C_ok {α : Type} (K : Nat) : CallsOk (α := α) M (C K) := (entryD_ok (entryD_ok (entryD_ok (entryD_ok noCalls_ok (by rfl) Tryz.func42 (by kernel_rfl) rfl (wire_Writer_Int.rets K)) (by rfl) Tryz.func41 (by kernel_rfl) rfl (wire_Writer_Uint.rets K)) (by rfl) Tryz.func95 (by kernel_rfl) rfl (wire_Writer_Byte.rets K)) (by rfl) Tryz.func140 (by kernel_rfl) rfl (code_of.rets K))
noncomputable def CP {α : Type} (K : Nat) : CutBy α := noCuts
theorem CP_ok {α : Type} (K : Nat)  : CutsOk (α := α) M 2 (CP K) := noCuts_ok
noncomputable def l0.h : SSh := ⟨[0, 57, 58, 59], (.cons (.ptr 0 0) (.cons (.ty (.slice yI)) (.cons (.ty yI) (.ty yI)))), [.cells 188 0 (.own 2), .dead, .list 5 (.int .u8) []]⟩
noncomputable def l0.x : SSh := ⟨[], .unit, [.cells 188 0 (.own 2), .dead, .list 5 (.int .u8) []]⟩
noncomputable def l0.cx : l0.h.I → (List Int) → l0.x.I := fun x r => ((), ((), ((), (r, ()))))
noncomputable def l0.f (K : Nat) : Nat → List Int → Int → Int → List Int → Option (List Int)
  | 0, _, _, _, _ => none
  | k + 1, a0, a1, a2, a3 => bif decide (a2 < a1) then bif decide ((0 : Int) ≤ a2) && true then a0[a2.toNat]?.bind fun t => (wire_Writer_Uint.f K (IntKind.u64.wrap t) a3).bind fun t => l0.f K k a0 a1 (IntKind.i64.wrap (a2 + (1 : Int))) t else none else some a3
noncomputable def l0.F (K : Nat) (k : Nat) : l0.h.I → Option (List Int) := fun x => l0.f K k x.1.2.1 x.1.2.2.1 x.1.2.2.2 x.2.2.2.1
noncomputable def l0.lp {α : Type} (K : Nat) : St → Kn α → Option α := lpX 2 68 1 l0.h l0.x (l0.F K K) l0.cx
noncomputable def l0.c : Code := nthLoop Tryz.f96 0
noncomputable def l0.LP {α : Type} (K : Nat) : LoopsBy α := noLoops
theorem l0.eq (K : Nat) (k : Nat) (a0 : List Int) (a1 : Int) (a2 : Int) (a3 : List Int) : exec M (C K) (eqBy M.P) (l0.LP K) RF (CP K) 20 l0.c (Kl 2 l0.h (withCv (l0.F K k) l0.cx) (backX 2 68 1 l0.x)) (l0.h.enc 68 (((), (a0, (a1, a2))), ((), ((), (a3, ()))))) = (l0.f K (k + 1) a0 a1 a2 a3).bind fun r => some (l0.cx (((), (a0, (a1, a2))), ((), ((), (a3, ())))) r) := by
  rw [l0.f]
  try simp only [el]
  kernel_rfl
theorem l0.leads (K : Nat) : ∀ k x y, withCv (l0.F K k) l0.cx x = some y → Leads M 2 (.loop l0.c) (l0.h.enc 68 x) (outX 68 1 l0.x y).1 (outX 68 1 l0.x y).2 :=
  loopX_sound (C_ok K) (eqBy_ok _) (by kernel_rfl) RF_ok (CP_ok K) (show LoopsOk M 2 (l0.LP K) (loopsOf l0.c) from (show loopsOf l0.c = [] by kernel_rfl) ▸ (noLoops_ok)) (Nat.le_of_ble_eq_true rfl) (Nat.le_of_ble_eq_true rfl) (fun x => rfl) (fun k x => l0.eq K k x.1.2.1 x.1.2.2.1 x.1.2.2.2 x.2.2.2.1)
theorem l0.lp_ok {α : Type} (K : Nat) : LoopOk (α := α) M 2 (nthLoop Tryz.f96 0) (l0.lp K) := lpX_ok (Nat.le_of_ble_eq_true rfl) (l0.leads K K)
noncomputable def f (K : Nat) (a0 : Int) (a1 : Int) (a2 : Int) (a3 : Int) (a4 : Int) (a5 : List Int) (a6 : List Int) : Option (List Int) := (code_of.f K a0).bind fun t => (wire_Writer_Byte.f K (IntKind.u8.wrap a0) a6).bind fun t_1 => bif t.1 then (wire_Writer_Uint.f K (IntKind.u64.wrap a1) t_1).bind fun t_2 => bif t.2.1 then (wire_Writer_Uint.f K (IntKind.u64.wrap a2) t_2).bind fun t_3 => bif t.2.2.1 then (wire_Writer_Uint.f K (IntKind.u64.wrap a3) t_3).bind fun t => bif a0 == (1 : Int) then wire_Writer_Int.f K a4 t else bif a0 == (17 : Int) then (wire_Writer_Uint.f K (IntKind.u64.wrap (↑a5.length : Int)) t).bind fun t => l0.f K K a5 (↑a5.length : Int) (0 : Int) t else some t else bif a0 == (1 : Int) then wire_Writer_Int.f K a4 t_3 else bif a0 == (17 : Int) then (wire_Writer_Uint.f K (IntKind.u64.wrap (↑a5.length : Int)) t_3).bind fun t => l0.f K K a5 (↑a5.length : Int) (0 : Int) t else some t_3 else bif t.2.2.1 then (wire_Writer_Uint.f K (IntKind.u64.wrap a3) t_2).bind fun t => bif a0 == (1 : Int) then wire_Writer_Int.f K a4 t else bif a0 == (17 : Int) then (wire_Writer_Uint.f K (IntKind.u64.wrap (↑a5.length : Int)) t).bind fun t => l0.f K K a5 (↑a5.length : Int) (0 : Int) t else some t else bif a0 == (1 : Int) then wire_Writer_Int.f K a4 t_2 else bif a0 == (17 : Int) then (wire_Writer_Uint.f K (IntKind.u64.wrap (↑a5.length : Int)) t_2).bind fun t => l0.f K K a5 (↑a5.length : Int) (0 : Int) t else some t_2 else bif t.2.1 then (wire_Writer_Uint.f K (IntKind.u64.wrap a2) t_1).bind fun t_2 => bif t.2.2.1 then (wire_Writer_Uint.f K (IntKind.u64.wrap a3) t_2).bind fun t => bif a0 == (1 : Int) then wire_Writer_Int.f K a4 t else bif a0 == (17 : Int) then (wire_Writer_Uint.f K (IntKind.u64.wrap (↑a5.length : Int)) t).bind fun t => l0.f K K a5 (↑a5.length : Int) (0 : Int) t else some t else bif a0 == (1 : Int) then wire_Writer_Int.f K a4 t_2 else bif a0 == (17 : Int) then (wire_Writer_Uint.f K (IntKind.u64.wrap (↑a5.length : Int)) t_2).bind fun t => l0.f K K a5 (↑a5.length : Int) (0 : Int) t else some t_2 else bif t.2.2.1 then (wire_Writer_Uint.f K (IntKind.u64.wrap a3) t_1).bind fun t => bif a0 == (1 : Int) then wire_Writer_Int.f K a4 t else bif a0 == (17 : Int) then (wire_Writer_Uint.f K (IntKind.u64.wrap (↑a5.length : Int)) t).bind fun t => l0.f K K a5 (↑a5.length : Int) (0 : Int) t else some t else bif a0 == (1 : Int) then wire_Writer_Int.f K a4 t_1 else bif a0 == (17 : Int) then (wire_Writer_Uint.f K (IntKind.u64.wrap (↑a5.length : Int)) t_1).bind fun t => l0.f K K a5 (↑a5.length : Int) (0 : Int) t else some t_1
noncomputable def F (K : Nat) : sig.In → Option (List Int) := fun x => f K x.1.2.1 x.1.2.2.1 x.1.2.2.2.1 x.1.2.2.2.2.1 x.1.2.2.2.2.2.1 x.1.2.2.2.2.2.2 x.2.2.1
noncomputable def cv : sig.In → (List Int) → sig.Ou := fun x r => ((), ((), ((), (r, ()))))
noncomputable def LP {α : Type} (K : Nat) : LoopsBy α := (lpPut 15 (l0.lp K) noLoops)
theorem eq (K : Nat) (a0 : Int) (a1 : Int) (a2 : Int) (a3 : Int) (a4 : Int) (a5 : List Int) (a6 : List Int) : runF M sig (C K) (eqBy M.P) (LP K) RF (CP K) 20 Tryz.f96 (bodyOf Tryz.f96) (((), (a0, (a1, (a2, (a3, (a4, a5)))))), ((), (a6, ()))) = (f K a0 a1 a2 a3 a4 a5 a6).bind fun r => some (cv (((), (a0, (a1, (a2, (a3, (a4, a5)))))), ((), (a6, ()))) r) := by
  unfold f
  try simp only [el]
  kernel_rfl
theorem rets (K : Nat) : ∀ x y, withCv (F K) cv x = some y → Rets M 96 sig x y := fun x y h => runF_rets (L := 20) (C_ok K) (eqBy_ok _) (by kernel_rfl) RF_ok (CP_ok K) (show LoopsOk M 2 (LP K) (loopsOf (bodyOf Tryz.f96)) from (show loopsOf (bodyOf Tryz.f96) = [nthLoop Tryz.f96 0] by kernel_rfl) ▸ (loopsOk_put (key := 15) (by kernel_rfl) (l0.lp_ok K) noLoops_ok (by kernel_rfl))) (Nat.le_of_ble_eq_true rfl) Tryz.func96 (by kernel_rfl) ((eq K x.1.2.1 x.1.2.2.1 x.1.2.2.2.1 x.1.2.2.2.2.1 x.1.2.2.2.2.2.1 x.1.2.2.2.2.2.2 x.2.2.1).trans h)
end code_putInsn
namespace code_putEnd
/-! ### code_putEnd: function 97 -/
noncomputable def sig : Sig := ⟨(.cons (.ptr 0 0) (.agg (.cons (.ty yI) (.cons (.ty yI) (.cons (.ty yI) (.ty yI)))))), [.cells 188 0 (.own 1), .list 5 (.int .u8) []], .unit, [.cells 188 0 (.own 2), .dead, .list 5 (.int .u8) []]⟩
noncomputable def RF : RefitBy := noRefit
theorem RF_ok : RefitOk M 2 RF := noRefit_ok
noncomputable def C {α : Type} (K : Nat) : CallsBy α := (entryD 95 wire_Writer_Byte.sig (wire_Writer_Byte.F K) wire_Writer_Byte.cv (entryD 41 wire_Writer_Uint.sig (wire_Writer_Uint.F K) wire_Writer_Uint.cv noCalls))
theorem C_ok {α : Type} (K : Nat) : CallsOk (α := α) M (C K) := (entryD_ok (entryD_ok noCalls_ok (by rfl) Tryz.func41 (by kernel_rfl) rfl (wire_Writer_Uint.rets K)) (by rfl) Tryz.func95 (by kernel_rfl) rfl (wire_Writer_Byte.rets K))
noncomputable def CP {α : Type} (K : Nat) : CutBy α := noCuts
theorem CP_ok {α : Type} (K : Nat)  : CutsOk (α := α) M 2 (CP K) := noCuts_ok
noncomputable def f (K : Nat) (a0 : Int) (a1 : Int) (a2 : Int) (a3 : Int) (a4 : List Int) : Option (List Int) := (wire_Writer_Byte.f K (IntKind.u8.wrap a0) a4).bind fun t => bif a0 == (1 : Int) then wire_Writer_Uint.f K (IntKind.u64.wrap a2) t else bif a0 == (2 : Int) then (wire_Writer_Uint.f K (IntKind.u64.wrap a1) t).bind fun t => (wire_Writer_Uint.f K (IntKind.u64.wrap a2) t).bind fun t => wire_Writer_Uint.f K (IntKind.u64.wrap a3) t else bif a0 == (3 : Int) then wire_Writer_Uint.f K (IntKind.u64.wrap a1) t else some t
noncomputable def F (K : Nat) : sig.In → Option (List Int) := fun x => f K x.1.2.1 x.1.2.2.1 x.1.2.2.2.1 x.1.2.2.2.2 x.2.2.1
noncomputable def cv : sig.In → (List Int) → sig.Ou := fun x r => ((), ((), ((), (r, ()))))
noncomputable def LP {α : Type} (K : Nat) : LoopsBy α := noLoops
theorem eq (K : Nat) (a0 : Int) (a1 : Int) (a2 : Int) (a3 : Int) (a4 : List Int) : runF M sig (C K) (eqBy M.P) (LP K) RF (CP K) 20 Tryz.f97 (bodyOf Tryz.f97) (((), (a0, (a1, (a2, a3)))), ((), (a4, ()))) = (f K a0 a1 a2 a3 a4).bind fun r => some (cv (((), (a0, (a1, (a2, a3)))), ((), (a4, ()))) r) := by
  unfold f
  try simp only [el]
  kernel_rfl
theorem rets (K : Nat) : ∀ x y, withCv (F K) cv x = some y → Rets M 97 sig x y := fun x y h => runF_rets (L := 20) (C_ok K) (eqBy_ok _) (by kernel_rfl) RF_ok (CP_ok K) (show LoopsOk M 2 (LP K) (loopsOf (bodyOf Tryz.f97)) from (show loopsOf (bodyOf Tryz.f97) = [] by kernel_rfl) ▸ noLoops_ok) (Nat.le_of_ble_eq_true rfl) Tryz.func97 (by kernel_rfl) ((eq K x.1.2.1 x.1.2.2.1 x.1.2.2.2.1 x.1.2.2.2.2 x.2.2.1).trans h)
end code_putEnd
namespace code_putFunc
/-! ### code_putFunc: function 43 -/
noncomputable def sig : Sig := ⟨(.cons (.ptr 0 0) (.agg (.cons (.ty .str) (.cons (.ty yI) (.cons (.ty yI) (.ty (.slice yBlock))))))), [.cells 188 0 (.own 1), .list 5 (.int .u8) []], .unit, [.cells 188 0 (.own 2), .dead, .list 5 (.int .u8) []]⟩
noncomputable def RF : RefitBy := noRefit
theorem RF_ok : RefitOk M 2 RF := noRefit_ok
noncomputable def C {α : Type} (K : Nat) : CallsBy α := (entryD 44 wire_Writer_Section.sig (wire_Writer_Section.F K) wire_Writer_Section.cv (entryD 41 wire_Writer_Uint.sig (wire_Writer_Uint.F K) wire_Writer_Uint.cv (entryD 96 code_putInsn.sig (code_putInsn.F K) code_putInsn.cv (entryD 97 code_putEnd.sig (code_putEnd.F K) code_putEnd.cv noCalls))))
theorem C_ok {α : Type} (K : Nat) : CallsOk (α := α) M (C K) := (entryD_ok (entryD_ok (entryD_ok (entryD_ok noCalls_ok (by rfl) Tryz.func97 (by kernel_rfl) rfl (code_putEnd.rets K)) (by rfl) Tryz.func96 (by kernel_rfl) rfl (code_putInsn.rets K)) (by rfl) Tryz.func41 (by kernel_rfl) rfl (wire_Writer_Uint.rets K)) (by rfl) Tryz.func44 (by kernel_rfl) rfl (wire_Writer_Section.rets K))
noncomputable def CP {α : Type} (K : Nat) : CutBy α := noCuts
theorem CP_ok {α : Type} (K : Nat)  : CutsOk (α := α) M 2 (CP K) := noCuts_ok
noncomputable def l1.h : SSh := ⟨[0, 5, 30, 31, 32, 43, 44, 45], (.cons (.ptr 0 0) (.cons (.ptr 2 0) (.cons (.ty (.slice yBlock)) (.cons (.ty yI) (.cons (.ty yI) (.cons (.ty (.slice yInsn)) (.cons (.ty yI) (.ty yI)))))))), [.cells 188 0 (.own 3), .dead, .cells 91 0 (.cons (.ty (.slice yInsn)) (.cons (.ty yI) (.cons (.ty yI) (.cons (.ty yI) (.ty yI))))), .list 5 (.int .u8) []]⟩
noncomputable def l1.x : SSh := ⟨[0, 5, 30, 31, 32], (.cons (.ptr 0 0) (.cons (.ptr 2 0) (.cons (.ty (.slice yBlock)) (.cons (.ty yI) (.ty yI))))), [.cells 188 0 (.own 3), .dead, .cells 91 0 (.cons (.ty (.slice yInsn)) (.cons (.ty yI) (.cons (.ty yI) (.cons (.ty yI) (.ty yI))))), .list 5 (.int .u8) []]⟩
noncomputable def l1.cx : l1.h.I → (List Int) → l1.x.I := fun x r => (((), ((), (x.1.2.2.1, (x.1.2.2.2.1, x.1.2.2.2.2.1)))), ((), ((), ((x.2.2.2.1.1, (x.2.2.2.1.2.1, (x.2.2.2.1.2.2.1, (x.2.2.2.1.2.2.2.1, x.2.2.2.1.2.2.2.2)))), (r, ())))))
noncomputable def l1.f (K : Nat) : Nat → List LInsn → Int → Int → List Int → Option (List Int)
  | 0, _, _, _, _ => none
  | k + 1, a3, a4, a5, a11 => bif decide (a5 < a4) then bif decide ((0 : Int) ≤ a5) && true then a3[a5.toNat]?.bind fun t => (code_putInsn.f K t.1 t.2.1 t.2.2.1 t.2.2.2.1 t.2.2.2.2.1 t.2.2.2.2.2 a11).bind fun t => l1.f K k a3 a4 (IntKind.i64.wrap (a5 + (1 : Int))) t else none else some a11
noncomputable def l1.F (K : Nat) (k : Nat) : l1.h.I → Option (List Int) := fun x => l1.f K k x.1.2.2.2.2.2.1 x.1.2.2.2.2.2.2.1 x.1.2.2.2.2.2.2.2 x.2.2.2.2.1
noncomputable def l1.lp {α : Type} (K : Nat) : St → Kn α → Option α := lpX 2 58 2 l1.h l1.x (l1.F K K) l1.cx
noncomputable def l1.c : Code := nthLoop Tryz.f43 1
noncomputable def l1.LP {α : Type} (K : Nat) : LoopsBy α := noLoops
theorem l1.eq (K : Nat) (k : Nat) (a0 : List LBlock) (a1 : Int) (a2 : Int) (a3 : List LInsn) (a4 : Int) (a5 : Int) (a6 : List LInsn) (a7 : Int) (a8 : Int) (a9 : Int) (a10 : Int) (a11 : List Int) : exec M (C K) (eqBy M.P) (l1.LP K) RF (CP K) 20 l1.c (Kl 2 l1.h (withCv (l1.F K k) l1.cx) (backX 2 58 2 l1.x)) (l1.h.enc 58 (((), ((), (a0, (a1, (a2, (a3, (a4, a5))))))), ((), ((), ((a6, (a7, (a8, (a9, a10)))), (a11, ())))))) = (l1.f K (k + 1) a3 a4 a5 a11).bind fun r => some (l1.cx (((), ((), (a0, (a1, (a2, (a3, (a4, a5))))))), ((), ((), ((a6, (a7, (a8, (a9, a10)))), (a11, ()))))) r) := by
  rw [l1.f]
  try simp only [el]
  kernel_rfl
theorem l1.leads (K : Nat) : ∀ k x y, withCv (l1.F K k) l1.cx x = some y → Leads M 2 (.loop l1.c) (l1.h.enc 58 x) (outX 58 2 l1.x y).1 (outX 58 2 l1.x y).2 :=
  loopX_sound (C_ok K) (eqBy_ok _) (by kernel_rfl) RF_ok (CP_ok K) (show LoopsOk M 2 (l1.LP K) (loopsOf l1.c) from (show loopsOf l1.c = [] by kernel_rfl) ▸ (noLoops_ok)) (Nat.le_of_ble_eq_true rfl) (Nat.le_of_ble_eq_true rfl) (fun x => rfl) (fun k x => l1.eq K k x.1.2.2.1 x.1.2.2.2.1 x.1.2.2.2.2.1 x.1.2.2.2.2.2.1 x.1.2.2.2.2.2.2.1 x.1.2.2.2.2.2.2.2 x.2.2.2.1.1 x.2.2.2.1.2.1 x.2.2.2.1.2.2.1 x.2.2.2.1.2.2.2.1 x.2.2.2.1.2.2.2.2 x.2.2.2.2.1)
theorem l1.lp_ok {α : Type} (K : Nat) : LoopOk (α := α) M 2 (nthLoop Tryz.f43 1) (l1.lp K) := lpX_ok (Nat.le_of_ble_eq_true rfl) (l1.leads K K)
noncomputable def l0.h : SSh := ⟨[0, 30, 31, 32], (.cons (.ptr 0 0) (.cons (.ty (.slice yBlock)) (.cons (.ty yI) (.ty yI)))), [.cells 188 0 (.own 2), .dead, .list 5 (.int .u8) []]⟩
noncomputable def l0.x : SSh := ⟨[], .unit, [.cells 188 0 (.own 2), .dead, .list 5 (.int .u8) []]⟩
noncomputable def l0.cx : l0.h.I → (List Int) → l0.x.I := fun x r => ((), ((), ((), (r, ()))))
noncomputable def l0.f (K : Nat) : Nat → List LBlock → Int → Int → List Int → Option (List Int)
  | 0, _, _, _, _ => none
  | k + 1, a0, a1, a2, a3 => bif decide (a2 < a1) then bif decide ((0 : Int) ≤ a2) && true then a0[a2.toNat]?.bind fun t => (wire_Writer_Uint.f K (IntKind.u64.wrap (↑(List.length t.1) : Int)) a3).bind fun t_1 => (l1.f K K t.1 (↑(List.length t.1) : Int) (0 : Int) t_1).bind fun t_2 => (code_putEnd.f K t.2.1 t.2.2.1 t.2.2.2.1 t.2.2.2.2 t_2).bind fun t => l0.f K k a0 a1 (IntKind.i64.wrap (a2 + (1 : Int))) t else none else some a3
noncomputable def l0.F (K : Nat) (k : Nat) : l0.h.I → Option (List Int) := fun x => l0.f K k x.1.2.1 x.1.2.2.1 x.1.2.2.2 x.2.2.2.1
noncomputable def l0.lp {α : Type} (K : Nat) : St → Kn α → Option α := lpX 2 58 0 l0.h l0.x (l0.F K K) l0.cx
noncomputable def l0.c : Code := nthLoop Tryz.f43 0
noncomputable def l0.LP {α : Type} (K : Nat) : LoopsBy α := (lpPut 10 (l1.lp K) noLoops)
theorem l0.eq (K : Nat) (k : Nat) (a0 : List LBlock) (a1 : Int) (a2 : Int) (a3 : List Int) : exec M (C K) (eqBy M.P) (l0.LP K) RF (CP K) 20 l0.c (Kl 2 l0.h (withCv (l0.F K k) l0.cx) (backX 2 58 0 l0.x)) (l0.h.enc 58 (((), (a0, (a1, a2))), ((), ((), (a3, ()))))) = (l0.f K (k + 1) a0 a1 a2 a3).bind fun r => some (l0.cx (((), (a0, (a1, a2))), ((), ((), (a3, ())))) r) := by
  rw [l0.f]
  try simp only [el]
  kernel_rfl
theorem l0.leads (K : Nat) : ∀ k x y, withCv (l0.F K k) l0.cx x = some y → Leads M 2 (.loop l0.c) (l0.h.enc 58 x) (outX 58 0 l0.x y).1 (outX 58 0 l0.x y).2 :=
  loopX_sound (C_ok K) (eqBy_ok _) (by kernel_rfl) RF_ok (CP_ok K) (show LoopsOk M 2 (l0.LP K) (loopsOf l0.c) from (show loopsOf l0.c = [nthLoop Tryz.f43 1] by kernel_rfl) ▸ ((loopsOk_put (key := 10) (by kernel_rfl) (l1.lp_ok K) noLoops_ok (by kernel_rfl)))) (Nat.le_of_ble_eq_true rfl) (Nat.le_of_ble_eq_true rfl) (fun x => rfl) (fun k x => l0.eq K k x.1.2.1 x.1.2.2.1 x.1.2.2.2 x.2.2.2.1)
theorem l0.lp_ok {α : Type} (K : Nat) : LoopOk (α := α) M 2 (nthLoop Tryz.f43 0) (l0.lp K) := lpX_ok (Nat.le_of_ble_eq_true rfl) (l0.leads K K)
noncomputable def f (K : Nat) (a0 : ByteArray) (a1 : Int) (a2 : Int) (a3 : List LBlock) (a4 : List Int) : Option (List Int) := bif a0.size.ble (100000 : Nat) then (wire_Writer_Section.f K (bytesOf a0) a4).bind fun t => (wire_Writer_Uint.f K (IntKind.u64.wrap a1) t).bind fun t => (wire_Writer_Uint.f K (IntKind.u64.wrap a2) t).bind fun t => (wire_Writer_Uint.f K (IntKind.u64.wrap (↑a3.length : Int)) t).bind fun t => l0.f K K a3 (↑a3.length : Int) (0 : Int) t else none
noncomputable def F (K : Nat) : sig.In → Option (List Int) := fun x => f K x.1.2.1 x.1.2.2.1 x.1.2.2.2.1 x.1.2.2.2.2 x.2.2.1
noncomputable def cv : sig.In → (List Int) → sig.Ou := fun x r => ((), ((), ((), (r, ()))))
noncomputable def LP {α : Type} (K : Nat) : LoopsBy α := (lpPut 6 (l0.lp K) (lpPut 10 (l1.lp K) noLoops))
theorem eq (K : Nat) (a0 : ByteArray) (a1 : Int) (a2 : Int) (a3 : List LBlock) (a4 : List Int) : runF M sig (C K) (eqBy M.P) (LP K) RF (CP K) 20 Tryz.f43 (bodyOf Tryz.f43) (((), (a0, (a1, (a2, a3)))), ((), (a4, ()))) = (f K a0 a1 a2 a3 a4).bind fun r => some (cv (((), (a0, (a1, (a2, a3)))), ((), (a4, ()))) r) := by
  unfold f
  try simp only [el]
  kernel_rfl
theorem rets (K : Nat) : ∀ x y, withCv (F K) cv x = some y → Rets M 43 sig x y := fun x y h => runF_rets (L := 20) (C_ok K) (eqBy_ok _) (by kernel_rfl) RF_ok (CP_ok K) (show LoopsOk M 2 (LP K) (loopsOf (bodyOf Tryz.f43)) from (show loopsOf (bodyOf Tryz.f43) = [nthLoop Tryz.f43 0, nthLoop Tryz.f43 1] by kernel_rfl) ▸ (loopsOk_put (key := 6) (by kernel_rfl) (l0.lp_ok K) (loopsOk_put (key := 10) (by kernel_rfl) (l1.lp_ok K) noLoops_ok (by kernel_rfl)) (by kernel_rfl))) (Nat.le_of_ble_eq_true rfl) Tryz.func43 (by kernel_rfl) ((eq K x.1.2.1 x.1.2.2.1 x.1.2.2.2.1 x.1.2.2.2.2 x.2.2.1).trans h)
end code_putFunc
noncomputable def slices_Clone_byte_byte.sig : Sig := ⟨(.ty (.slice (.int .u8))), [], (.ty (.slice (.int .u8))), []⟩
noncomputable def slices_Clone_byte_byte.f (K : Nat) (a0 : List Int) : Option (List Int) := bif (0 + a0.length).ble 100000 then some a0 else none
noncomputable def slices_Clone_byte_byte.F (K : Nat) : slices_Clone_byte_byte.sig.In → Option (List Int) := fun x => slices_Clone_byte_byte.f K x.1
noncomputable def slices_Clone_byte_byte.cv : slices_Clone_byte_byte.sig.In → (List Int) → slices_Clone_byte_byte.sig.Ou := fun x r => (r, ())
theorem slices_Clone_byte_byte.rets (K : Nat) : ∀ x y, withCv (slices_Clone_byte_byte.F K) slices_Clone_byte_byte.cv x = some y → Rets M 98 slices_Clone_byte_byte.sig x y := fun x y h =>
  clone_rets (M := M) (g := slices_Clone_byte_byte.sig) (T := (.int .u8)) (e := 5) (n := 8) (L := 1) (x := x.1) (args0 := x.1) (G := fun xs => bif (0 + xs.length).ble 100000 then some (slices_Clone_byte_byte.cv (xs, ()) xs) else none) (by kernel_rfl) Tryz.func98 (show Tryz.f98.body = some (.seq _ (.seq (.seq (.region _ #[⟨some 3, .move (.tmp 0), _, _, _, none⟩, ⟨some 4, .binOp .eql _ (.tmp 3) (.const (.slice none 0 0)) _, _, _, _, none⟩] false) _) _)) from rfl)
    (by kernel_rfl) rfl rfl (by kernel_rfl) (by decide) (by kernel_rfl) (by kernel_rfl) (by kernel_rfl) (by kernel_rfl) (by kernel_rfl) (by kernel_rfl) (Eq.trans (show (bif (0 + x.1.length).ble 100000 then some (slices_Clone_byte_byte.cv x x.1) else none) = (bif (0 + x.1.length).ble 100000 then some x.1 else none).bind fun r => some (slices_Clone_byte_byte.cv x r) by rw [cond_bind]; rfl) h) x.2
noncomputable def slices_Clone_byte_byte_own.sig : Sig := ⟨(.ty (.slice (.int .u8))), [], (.own 0), [.list 5 (.int .u8) []]⟩
noncomputable def slices_Clone_byte_byte_own.f (K : Nat) (a0 : List Int) : Option (List Int) := bif (0 + a0.length).ble 100000 then some a0 else none
noncomputable def slices_Clone_byte_byte_own.F (K : Nat) : slices_Clone_byte_byte_own.sig.In → Option (List Int) := fun x => slices_Clone_byte_byte_own.f K x.1
noncomputable def slices_Clone_byte_byte_own.cv : slices_Clone_byte_byte_own.sig.In → (List Int) → slices_Clone_byte_byte_own.sig.Ou := fun x r => ((), (r, ()))
theorem slices_Clone_byte_byte_own.rets (K : Nat) : ∀ x y, withCv (slices_Clone_byte_byte_own.F K) slices_Clone_byte_byte_own.cv x = some y → Rets M 98 slices_Clone_byte_byte_own.sig x y := fun x y h =>
  clone_rets (M := M) (g := slices_Clone_byte_byte_own.sig) (T := (.int .u8)) (e := 5) (n := 8) (L := 1) (x := x.1) (args0 := x.1) (G := fun xs => bif (0 + xs.length).ble 100000 then some (slices_Clone_byte_byte_own.cv (xs, ()) xs) else none) (by kernel_rfl) Tryz.func98 (show Tryz.f98.body = some (.seq _ (.seq (.seq (.region _ #[⟨some 3, .move (.tmp 0), _, _, _, none⟩, ⟨some 4, .binOp .eql _ (.tmp 3) (.const (.slice none 0 0)) _, _, _, _, none⟩] false) _) _)) from rfl)
    (by kernel_rfl) rfl rfl (by kernel_rfl) (by decide) (by kernel_rfl) (by kernel_rfl) (by kernel_rfl) (by kernel_rfl) (by kernel_rfl) (by kernel_rfl) (Eq.trans (show (bif (0 + x.1.length).ble 100000 then some (slices_Clone_byte_byte_own.cv x x.1) else none) = (bif (0 + x.1.length).ble 100000 then some x.1 else none).bind fun r => some (slices_Clone_byte_byte_own.cv x r) by rw [cond_bind]; rfl) h) x.2
noncomputable def slices_Clone_byte_byte_in.sig : Sig := ⟨(.own 0), [.list 5 (.int .u8) []], (.ty (.slice (.int .u8))), [.list 5 (.int .u8) []]⟩
noncomputable def slices_Clone_byte_byte_in.f (K : Nat) (a0 : List Int) : Option (List Int) := bif (0 + a0.length).ble 100000 then some a0 else none
noncomputable def slices_Clone_byte_byte_in.F (K : Nat) : slices_Clone_byte_byte_in.sig.In → Option (List Int) := fun x => slices_Clone_byte_byte_in.f K x.2.1
noncomputable def slices_Clone_byte_byte_in.cv : slices_Clone_byte_byte_in.sig.In → (List Int) → slices_Clone_byte_byte_in.sig.Ou := fun x r => (r, (x.2.1, ()))
theorem slices_Clone_byte_byte_in.rets (K : Nat) : ∀ x y, withCv (slices_Clone_byte_byte_in.F K) slices_Clone_byte_byte_in.cv x = some y → Rets M 98 slices_Clone_byte_byte_in.sig x y := fun x y h =>
  cloneO_rets (M := M) (g := slices_Clone_byte_byte_in.sig) (T := (.int .u8)) (e := 5) (n := 8) (L := 1) (x := x.2.1) (args0 := x.1) (z := x.2) (G := fun xs => bif (0 + xs.length).ble 100000 then some (slices_Clone_byte_byte_in.cv ((), (xs, ())) xs) else none) (by kernel_rfl) Tryz.func98 (show Tryz.f98.body = some (.seq _ (.seq (.seq (.region _ #[⟨some 3, .move (.tmp 0), _, _, _, none⟩, ⟨some 4, .binOp .eql _ (.tmp 3) (.const (.slice none 0 0)) _, _, _, _, none⟩] false) _) _)) from rfl)
    (by kernel_rfl) rfl rfl rfl (by decide) (by decide) (by kernel_rfl) (by decide) (by kernel_rfl) (by kernel_rfl) (by kernel_rfl) (by kernel_rfl) (by kernel_rfl) (by kernel_rfl) (Eq.trans (show (bif (0 + x.2.1.length).ble 100000 then some (slices_Clone_byte_byte_in.cv x x.2.1) else none) = (bif (0 + x.2.1.length).ble 100000 then some x.2.1 else none).bind fun r => some (slices_Clone_byte_byte_in.cv x r) by rw [cond_bind]; rfl) h)
namespace wire_Writer_Bytes
/-! ### wire_Writer_Bytes: function 45 -/
noncomputable def sig : Sig := ⟨(.ptr 0 0), [.cells 188 0 (.own 1), .list 5 (.int .u8) []], (.ty (.slice (.int .u8))), [.cells 188 0 (.own 1), .list 5 (.int .u8) []]⟩
noncomputable def RF : RefitBy := noRefit
theorem RF_ok : RefitOk M 2 RF := noRefit_ok
noncomputable def C {α : Type} (K : Nat) : CallsBy α := (entryD 98 slices_Clone_byte_byte_in.sig (slices_Clone_byte_byte_in.F K) slices_Clone_byte_byte_in.cv noCalls)
theorem C_ok {α : Type} (K : Nat) : CallsOk (α := α) M (C K) := (entryD_ok noCalls_ok (by rfl) Tryz.func98 (by kernel_rfl) rfl (slices_Clone_byte_byte_in.rets K))
noncomputable def CP {α : Type} (K : Nat) : CutBy α := noCuts
theorem CP_ok {α : Type} (K : Nat)  : CutsOk (α := α) M 2 (CP K) := noCuts_ok
noncomputable def f (K : Nat) (a0 : List Int) : Option (List Int) := slices_Clone_byte_byte_in.f K a0
noncomputable def F (K : Nat) : sig.In → Option (List Int) := fun x => f K x.2.2.1
noncomputable def cv : sig.In → (List Int) → sig.Ou := fun x r => (r, ((), (x.2.2.1, ())))
noncomputable def LP {α : Type} (K : Nat) : LoopsBy α := noLoops
theorem eq (K : Nat) (a0 : List Int) : runF M sig (C K) (eqBy M.P) (LP K) RF (CP K) 20 Tryz.f45 (bodyOf Tryz.f45) ((), ((), (a0, ()))) = (f K a0).bind fun r => some (cv ((), ((), (a0, ()))) r) := by
  unfold f
  try simp only [el]
  kernel_rfl
theorem rets (K : Nat) : ∀ x y, withCv (F K) cv x = some y → Rets M 45 sig x y := fun x y h => runF_rets (L := 20) (C_ok K) (eqBy_ok _) (by kernel_rfl) RF_ok (CP_ok K) (show LoopsOk M 2 (LP K) (loopsOf (bodyOf Tryz.f45)) from (show loopsOf (bodyOf Tryz.f45) = [] by kernel_rfl) ▸ noLoops_ok) (Nat.le_of_ble_eq_true rfl) Tryz.func45 (by kernel_rfl) ((eq K x.2.2.1).trans h)
end wire_Writer_Bytes
namespace code_Write
/-! ### code_Write: function 9 -/
noncomputable def sig : Sig := ⟨(.agg (.cons (.ty (.slice yI)) (.cons (.ty (.slice yFunc)) (.ty (.slice yImport))))), [], (.cons (.ty (.slice (.int .u8))) (.ty .err)), []⟩
noncomputable def RF : RefitBy := noRefit
theorem RF_ok : RefitOk M 0 RF := noRefit_ok
noncomputable def C {α : Type} (K : Nat) : CallsBy α := (entryD 38 ir_Check.sig (ir_Check.F K) ir_Check.cv (entryD 39 wire_New.sig (wire_New.F K) wire_New.cv (entryD 40 wire_Writer_Raw.sig (wire_Writer_Raw.F K) wire_Writer_Raw.cv (entryD 41 wire_Writer_Uint.sig (wire_Writer_Uint.F K) wire_Writer_Uint.cv (entryD 42 wire_Writer_Int.sig (wire_Writer_Int.F K) wire_Writer_Int.cv (entryD 43 code_putFunc.sig (code_putFunc.F K) code_putFunc.cv (entryD 44 wire_Writer_Section.sig (wire_Writer_Section.F K) wire_Writer_Section.cv (entryD 45 wire_Writer_Bytes.sig (wire_Writer_Bytes.F K) wire_Writer_Bytes.cv noCalls))))))))
theorem C_ok {α : Type} (K : Nat) : CallsOk (α := α) M (C K) := (entryD_ok (entryD_ok (entryD_ok (entryD_ok (entryD_ok (entryD_ok (entryD_ok (entryD_ok noCalls_ok (by rfl) Tryz.func45 (by kernel_rfl) rfl (wire_Writer_Bytes.rets K)) (by rfl) Tryz.func44 (by kernel_rfl) rfl (wire_Writer_Section.rets K)) (by rfl) Tryz.func43 (by kernel_rfl) rfl (code_putFunc.rets K)) (by rfl) Tryz.func42 (by kernel_rfl) rfl (wire_Writer_Int.rets K)) (by rfl) Tryz.func41 (by kernel_rfl) rfl (wire_Writer_Uint.rets K)) (by rfl) Tryz.func40 (by kernel_rfl) rfl (wire_Writer_Raw.rets K)) (by rfl) Tryz.func39 (by kernel_rfl) rfl (wire_New.rets K)) (by rfl) Tryz.func38 (by kernel_rfl) rfl (ir_Check.rets K))
noncomputable def CP {α : Type} (K : Nat) : CutBy α := noCuts
theorem CP_ok {α : Type} (K : Nat)  : CutsOk (α := α) M 0 (CP K) := noCuts_ok
noncomputable def l2.h : SSh := ⟨[5, 63, 64, 65], (.cons (.ptr 0 0) (.cons (.ty (.slice yImport)) (.cons (.ty yI) (.ty yI)))), [.cells 188 0 (.own 1), .list 5 (.int .u8) []]⟩
noncomputable def l2.x : SSh := ⟨[5], (.ptr 0 0), [.cells 188 0 (.own 1), .list 5 (.int .u8) []]⟩
noncomputable def l2.cx : l2.h.I → (List Int) → l2.x.I := fun x r => ((), ((), (r, ())))
noncomputable def l2.f (K : Nat) : Nat → List LImport → Int → Int → List Int → Option (List Int)
  | 0, _, _, _, _ => none
  | k + 1, a0, a1, a2, a3 => bif decide (a2 < a1) then bif decide ((0 : Int) ≤ a2) && true then a0[a2.toNat]?.bind fun t => bif (ByteArray.size t.1).ble (100000 : Nat) then (wire_Writer_Section.f K (bytesOf t.1) a3).bind fun t_1 => (wire_Writer_Uint.f K (IntKind.u64.wrap t.2) t_1).bind fun t => l2.f K k a0 a1 (IntKind.i64.wrap (a2 + (1 : Int))) t else none else none else some a3
noncomputable def l2.F (K : Nat) (k : Nat) : l2.h.I → Option (List Int) := fun x => l2.f K k x.1.2.1 x.1.2.2.1 x.1.2.2.2 x.2.2.1
noncomputable def l2.lp {α : Type} (K : Nat) : St → Kn α → Option α := lpX 0 82 4 l2.h l2.x (l2.F K K) l2.cx
noncomputable def l2.c : Code := nthLoop Tryz.f9 2
noncomputable def l2.LP {α : Type} (K : Nat) : LoopsBy α := noLoops
theorem l2.eq (K : Nat) (k : Nat) (a0 : List LImport) (a1 : Int) (a2 : Int) (a3 : List Int) : exec M (C K) (eqBy M.P) (l2.LP K) RF (CP K) 20 l2.c (Kl 0 l2.h (withCv (l2.F K k) l2.cx) (backX 0 82 4 l2.x)) (l2.h.enc 82 (((), (a0, (a1, a2))), ((), (a3, ())))) = (l2.f K (k + 1) a0 a1 a2 a3).bind fun r => some (l2.cx (((), (a0, (a1, a2))), ((), (a3, ()))) r) := by
  rw [l2.f]
  try simp only [el]
  kernel_rfl
theorem l2.leads (K : Nat) : ∀ k x y, withCv (l2.F K k) l2.cx x = some y → Leads M 0 (.loop l2.c) (l2.h.enc 82 x) (outX 82 4 l2.x y).1 (outX 82 4 l2.x y).2 :=
  loopX_sound (C_ok K) (eqBy_ok _) (by kernel_rfl) RF_ok (CP_ok K) (show LoopsOk M 0 (l2.LP K) (loopsOf l2.c) from (show loopsOf l2.c = [] by kernel_rfl) ▸ (noLoops_ok)) (Nat.le_of_ble_eq_true rfl) (Nat.le_of_ble_eq_true rfl) (fun x => rfl) (fun k x => l2.eq K k x.1.2.1 x.1.2.2.1 x.1.2.2.2 x.2.2.1)
theorem l2.lp_ok {α : Type} (K : Nat) : LoopOk (α := α) M 0 (nthLoop Tryz.f9 2) (l2.lp K) := lpX_ok (Nat.le_of_ble_eq_true rfl) (l2.leads K K)
noncomputable def l1.h : SSh := ⟨[1, 5, 46, 47, 48], (.cons (.ptr 0 0) (.cons (.ptr 1 0) (.cons (.ty (.slice yFunc)) (.cons (.ty yI) (.ty yI))))), [.cells 35 0 (.cons (.ty (.slice yI)) (.cons (.ty (.slice yFunc)) (.ty (.slice yImport)))), .cells 188 0 (.own 2), .list 5 (.int .u8) []]⟩
noncomputable def l1.x : SSh := ⟨[1, 5], (.cons (.ptr 0 0) (.ptr 1 0)), [.cells 35 0 (.cons (.ty (.slice yI)) (.cons (.ty (.slice yFunc)) (.ty (.slice yImport)))), .cells 188 0 (.own 2), .list 5 (.int .u8) []]⟩
noncomputable def l1.cx : l1.h.I → (List Int) → l1.x.I := fun x r => (((), ()), ((x.2.1.1, (x.2.1.2.1, x.2.1.2.2)), ((), (r, ()))))
noncomputable def l1.f (K : Nat) : Nat → List LFunc → Int → Int → List Int → Option (List Int)
  | 0, _, _, _, _ => none
  | k + 1, a0, a1, a2, a6 => bif decide (a2 < a1) then bif decide ((0 : Int) ≤ a2) && true then a0[a2.toNat]?.bind fun t => (code_putFunc.f K t.1 t.2.1 t.2.2.1 t.2.2.2 a6).bind fun t => l1.f K k a0 a1 (IntKind.i64.wrap (a2 + (1 : Int))) t else none else some a6
noncomputable def l1.F (K : Nat) (k : Nat) : l1.h.I → Option (List Int) := fun x => l1.f K k x.1.2.2.1 x.1.2.2.2.1 x.1.2.2.2.2 x.2.2.2.1
noncomputable def l1.lp {α : Type} (K : Nat) : St → Kn α → Option α := lpX 0 82 2 l1.h l1.x (l1.F K K) l1.cx
noncomputable def l1.c : Code := nthLoop Tryz.f9 1
noncomputable def l1.LP {α : Type} (K : Nat) : LoopsBy α := noLoops
theorem l1.eq (K : Nat) (k : Nat) (a0 : List LFunc) (a1 : Int) (a2 : Int) (a3 : List Int) (a4 : List LFunc) (a5 : List LImport) (a6 : List Int) : exec M (C K) (eqBy M.P) (l1.LP K) RF (CP K) 20 l1.c (Kl 0 l1.h (withCv (l1.F K k) l1.cx) (backX 0 82 2 l1.x)) (l1.h.enc 82 (((), ((), (a0, (a1, a2)))), ((a3, (a4, a5)), ((), (a6, ()))))) = (l1.f K (k + 1) a0 a1 a2 a6).bind fun r => some (l1.cx (((), ((), (a0, (a1, a2)))), ((a3, (a4, a5)), ((), (a6, ())))) r) := by
  rw [l1.f]
  try simp only [el]
  kernel_rfl
theorem l1.leads (K : Nat) : ∀ k x y, withCv (l1.F K k) l1.cx x = some y → Leads M 0 (.loop l1.c) (l1.h.enc 82 x) (outX 82 2 l1.x y).1 (outX 82 2 l1.x y).2 :=
  loopX_sound (C_ok K) (eqBy_ok _) (by kernel_rfl) RF_ok (CP_ok K) (show LoopsOk M 0 (l1.LP K) (loopsOf l1.c) from (show loopsOf l1.c = [] by kernel_rfl) ▸ (noLoops_ok)) (Nat.le_of_ble_eq_true rfl) (Nat.le_of_ble_eq_true rfl) (fun x => rfl) (fun k x => l1.eq K k x.1.2.2.1 x.1.2.2.2.1 x.1.2.2.2.2 x.2.1.1 x.2.1.2.1 x.2.1.2.2 x.2.2.2.1)
theorem l1.lp_ok {α : Type} (K : Nat) : LoopOk (α := α) M 0 (nthLoop Tryz.f9 1) (l1.lp K) := lpX_ok (Nat.le_of_ble_eq_true rfl) (l1.leads K K)
noncomputable def l0.h : SSh := ⟨[1, 5, 29, 30, 31], (.cons (.ptr 0 0) (.cons (.ptr 1 0) (.cons (.ty (.slice yI)) (.cons (.ty yI) (.ty yI))))), [.cells 35 0 (.cons (.ty (.slice yI)) (.cons (.ty (.slice yFunc)) (.ty (.slice yImport)))), .cells 188 0 (.own 2), .list 5 (.int .u8) []]⟩
noncomputable def l0.x : SSh := ⟨[1, 5], (.cons (.ptr 0 0) (.ptr 1 0)), [.cells 35 0 (.cons (.ty (.slice yI)) (.cons (.ty (.slice yFunc)) (.ty (.slice yImport)))), .cells 188 0 (.own 2), .list 5 (.int .u8) []]⟩
noncomputable def l0.cx : l0.h.I → (List Int) → l0.x.I := fun x r => (((), ()), ((x.2.1.1, (x.2.1.2.1, x.2.1.2.2)), ((), (r, ()))))
noncomputable def l0.f (K : Nat) : Nat → List Int → Int → Int → List Int → Option (List Int)
  | 0, _, _, _, _ => none
  | k + 1, a0, a1, a2, a6 => bif decide (a2 < a1) then bif decide ((0 : Int) ≤ a2) && true then a0[a2.toNat]?.bind fun t => (wire_Writer_Int.f K t a6).bind fun t => l0.f K k a0 a1 (IntKind.i64.wrap (a2 + (1 : Int))) t else none else some a6
noncomputable def l0.F (K : Nat) (k : Nat) : l0.h.I → Option (List Int) := fun x => l0.f K k x.1.2.2.1 x.1.2.2.2.1 x.1.2.2.2.2 x.2.2.2.1
noncomputable def l0.lp {α : Type} (K : Nat) : St → Kn α → Option α := lpX 0 82 0 l0.h l0.x (l0.F K K) l0.cx
noncomputable def l0.c : Code := nthLoop Tryz.f9 0
noncomputable def l0.LP {α : Type} (K : Nat) : LoopsBy α := noLoops
theorem l0.eq (K : Nat) (k : Nat) (a0 : List Int) (a1 : Int) (a2 : Int) (a3 : List Int) (a4 : List LFunc) (a5 : List LImport) (a6 : List Int) : exec M (C K) (eqBy M.P) (l0.LP K) RF (CP K) 20 l0.c (Kl 0 l0.h (withCv (l0.F K k) l0.cx) (backX 0 82 0 l0.x)) (l0.h.enc 82 (((), ((), (a0, (a1, a2)))), ((a3, (a4, a5)), ((), (a6, ()))))) = (l0.f K (k + 1) a0 a1 a2 a6).bind fun r => some (l0.cx (((), ((), (a0, (a1, a2)))), ((a3, (a4, a5)), ((), (a6, ())))) r) := by
  rw [l0.f]
  try simp only [el]
  kernel_rfl
theorem l0.leads (K : Nat) : ∀ k x y, withCv (l0.F K k) l0.cx x = some y → Leads M 0 (.loop l0.c) (l0.h.enc 82 x) (outX 82 0 l0.x y).1 (outX 82 0 l0.x y).2 :=
  loopX_sound (C_ok K) (eqBy_ok _) (by kernel_rfl) RF_ok (CP_ok K) (show LoopsOk M 0 (l0.LP K) (loopsOf l0.c) from (show loopsOf l0.c = [] by kernel_rfl) ▸ (noLoops_ok)) (Nat.le_of_ble_eq_true rfl) (Nat.le_of_ble_eq_true rfl) (fun x => rfl) (fun k x => l0.eq K k x.1.2.2.1 x.1.2.2.2.1 x.1.2.2.2.2 x.2.1.1 x.2.1.2.1 x.2.1.2.2 x.2.2.2.1)
theorem l0.lp_ok {α : Type} (K : Nat) : LoopOk (α := α) M 0 (nthLoop Tryz.f9 0) (l0.lp K) := lpX_ok (Nat.le_of_ble_eq_true rfl) (l0.leads K K)
noncomputable def f (K : Nat) (a0 : List Int) (a1 : List LFunc) (a2 : List LImport) : Option (List Int × Err) := (ir_Check.f K a0 a1 a2).bind fun t => bif bif true then !t.isNil else t.isNil then some ([], t) else (wire_New.f K).bind fun t => (wire_Writer_Raw.f K [(65 : Int), (86 : Int), (1 : Int)] t).bind fun t => (wire_Writer_Uint.f K (IntKind.u64.wrap (↑a0.length : Int)) t).bind fun t => (l0.f K K a0 (↑a0.length : Int) (0 : Int) t).bind fun t => (wire_Writer_Uint.f K (IntKind.u64.wrap (↑a1.length : Int)) t).bind fun t => (l1.f K K a1 (↑a1.length : Int) (0 : Int) t).bind fun t => (wire_Writer_Uint.f K (IntKind.u64.wrap (↑a2.length : Int)) t).bind fun t => (l2.f K K a2 (↑a2.length : Int) (0 : Int) t).bind fun t => (wire_Writer_Bytes.f K t).bind fun t => some (t, Err.nil)
noncomputable def F (K : Nat) : sig.In → Option (List Int × Err) := fun x => f K x.1.1 x.1.2.1 x.1.2.2
noncomputable def cv : sig.In → (List Int × Err) → sig.Ou := fun x r => ((r.1, r.2), ())
noncomputable def LP {α : Type} (K : Nat) : LoopsBy α := (lpPut 8 (l0.lp K) (lpPut 14 (l1.lp K) (lpPut 20 (l2.lp K) noLoops)))
theorem eq (K : Nat) (a0 : List Int) (a1 : List LFunc) (a2 : List LImport) : runF M sig (C K) (eqBy M.P) (LP K) RF (CP K) 20 Tryz.f9 (bodyOf Tryz.f9) ((a0, (a1, a2)), ()) = (f K a0 a1 a2).bind fun r => some (cv ((a0, (a1, a2)), ()) r) := by
  unfold f
  try simp only [el]
  kernel_rfl
theorem rets (K : Nat) : ∀ x y, withCv (F K) cv x = some y → Rets M 9 sig x y := fun x y h => runF_rets (L := 20) (C_ok K) (eqBy_ok _) (by kernel_rfl) RF_ok (CP_ok K) (show LoopsOk M 0 (LP K) (loopsOf (bodyOf Tryz.f9)) from (show loopsOf (bodyOf Tryz.f9) = [nthLoop Tryz.f9 0, nthLoop Tryz.f9 1, nthLoop Tryz.f9 2] by kernel_rfl) ▸ (loopsOk_put (key := 8) (by kernel_rfl) (l0.lp_ok K) (loopsOk_put (key := 14) (by kernel_rfl) (l1.lp_ok K) (loopsOk_put (key := 20) (by kernel_rfl) (l2.lp_ok K) noLoops_ok (by kernel_rfl)) (by kernel_rfl)) (by kernel_rfl))) (Nat.le_of_ble_eq_true rfl) Tryz.func9 (by kernel_rfl) ((eq K x.1.1 x.1.2.1 x.1.2.2).trans h)
end code_Write
namespace wire_Read
/-! ### wire_Read: function 47 -/
noncomputable def sig : Sig := ⟨(.ty (.slice (.int .u8))), [], (.ptr 0 0), [.cells 199 0 (.cons (.ty (.slice (.int .u8))) (.ty yI))]⟩
noncomputable def RF : RefitBy := noRefit
theorem RF_ok : RefitOk M 0 RF := noRefit_ok
noncomputable def C {α : Type} (K : Nat) : CallsBy α := (entryD 98 slices_Clone_byte_byte.sig (slices_Clone_byte_byte.F K) slices_Clone_byte_byte.cv noCalls)
theorem C_ok {α : Type} (K : Nat) : CallsOk (α := α) M (C K) := (entryD_ok noCalls_ok (by rfl) Tryz.func98 (by kernel_rfl) rfl (slices_Clone_byte_byte.rets K))
noncomputable def CP {α : Type} (K : Nat) : CutBy α := noCuts
theorem CP_ok {α : Type} (K : Nat)  : CutsOk (α := α) M 0 (CP K) := noCuts_ok
noncomputable def f (K : Nat) (a0 : List Int) : Option (List Int × Int) := (slices_Clone_byte_byte.f K a0).bind fun t => some (t, (0 : Int))
noncomputable def F (K : Nat) : sig.In → Option (List Int × Int) := fun x => f K x.1
noncomputable def cv : sig.In → (List Int × Int) → sig.Ou := fun x r => ((), ((r.1, r.2), ()))
noncomputable def LP {α : Type} (K : Nat) : LoopsBy α := noLoops
theorem eq (K : Nat) (a0 : List Int) : runF M sig (C K) (eqBy M.P) (LP K) RF (CP K) 20 Tryz.f47 (bodyOf Tryz.f47) (a0, ()) = (f K a0).bind fun r => some (cv (a0, ()) r) := by
  unfold f
  try simp only [el]
  kernel_rfl
theorem rets (K : Nat) : ∀ x y, withCv (F K) cv x = some y → Rets M 47 sig x y := fun x y h => runF_rets (L := 20) (C_ok K) (eqBy_ok _) (by kernel_rfl) RF_ok (CP_ok K) (show LoopsOk M 0 (LP K) (loopsOf (bodyOf Tryz.f47)) from (show loopsOf (bodyOf Tryz.f47) = [] by kernel_rfl) ▸ noLoops_ok) (Nat.le_of_ble_eq_true rfl) Tryz.func47 (by kernel_rfl) ((eq K x.1).trans h)
end wire_Read
namespace wire_Reader_At
/-! ### wire_Reader_At: function 141 -/
noncomputable def sig : Sig := ⟨(.ptr 0 0), [.cells 199 0 (.cons (.ty (.slice (.int .u8))) (.ty yI))], (.ty yI), [.cells 199 0 (.cons (.ty (.slice (.int .u8))) (.ty yI))]⟩
noncomputable def RF : RefitBy := noRefit
theorem RF_ok : RefitOk M 1 RF := noRefit_ok
noncomputable def C {α : Type} (K : Nat) : CallsBy α := noCalls
theorem C_ok {α : Type} (K : Nat) : CallsOk (α := α) M (C K) := noCalls_ok
noncomputable def CP {α : Type} (K : Nat) : CutBy α := noCuts
theorem CP_ok {α : Type} (K : Nat)  : CutsOk (α := α) M 1 (CP K) := noCuts_ok
noncomputable def f (K : Nat) : Option (Unit) := some ()
noncomputable def F (K : Nat) : sig.In → Option (Unit) := fun x => f K
noncomputable def cv : sig.In → Unit → sig.Ou := fun x r => (x.2.1.2, ((x.2.1.1, x.2.1.2), ()))
noncomputable def LP {α : Type} (K : Nat) : LoopsBy α := noLoops
theorem eq (K : Nat) (a0 : List Int) (a1 : Int) : runF M sig (C K) (eqBy M.P) (LP K) RF (CP K) 20 Tryz.f141 (bodyOf Tryz.f141) ((), ((a0, a1), ())) = (f K).bind fun r => some (cv ((), ((a0, a1), ())) r) := by
  unfold f
  try simp only [el]
  kernel_rfl
theorem rets (K : Nat) : ∀ x y, withCv (F K) cv x = some y → Rets M 141 sig x y := fun x y h => runF_rets (L := 20) (C_ok K) (eqBy_ok _) (by kernel_rfl) RF_ok (CP_ok K) (show LoopsOk M 1 (LP K) (loopsOf (bodyOf Tryz.f141)) from (show loopsOf (bodyOf Tryz.f141) = [] by kernel_rfl) ▸ noLoops_ok) (Nat.le_of_ble_eq_true rfl) Tryz.func141 (by kernel_rfl) ((eq K x.2.1.1 x.2.1.2).trans h)
end wire_Reader_At
namespace wire_Reader_wrong
/-! ### wire_Reader_wrong: function 162 -/
noncomputable def sig : Sig := ⟨(.cons (.ptr 0 0) (.ty yI)), [.cells 199 0 (.cons (.ty (.slice (.int .u8))) (.ty yI))], (.ty .err), [.cells 199 0 (.cons (.ty (.slice (.int .u8))) (.ty yI))]⟩
noncomputable def RF : RefitBy := noRefit
theorem RF_ok : RefitOk M 1 RF := noRefit_ok
noncomputable def C {α : Type} (K : Nat) : CallsBy α := (entryD 141 wire_Reader_At.sig (wire_Reader_At.F K) wire_Reader_At.cv (entryD 93 fault_At.sig (fault_At.F K) fault_At.cv noCalls))
theorem C_ok {α : Type} (K : Nat) : CallsOk (α := α) M (C K) := (entryD_ok (entryD_ok noCalls_ok (by rfl) Tryz.func93 (by kernel_rfl) rfl (fault_At.rets K)) (by rfl) Tryz.func141 (by kernel_rfl) rfl (wire_Reader_At.rets K))
noncomputable def CP {α : Type} (K : Nat) : CutBy α := noCuts
theorem CP_ok {α : Type} (K : Nat)  : CutsOk (α := α) M 1 (CP K) := noCuts_ok
noncomputable def f (K : Nat) (a0 : Int) (a2 : Int) : Option (Err) := (wire_Reader_At.f K).bind fun t => fault_At.f K (Err.no a0) [a2]
noncomputable def F (K : Nat) : sig.In → Option (Err) := fun x => f K x.1.2 x.2.1.2
noncomputable def cv : sig.In → Err → sig.Ou := fun x r => (r, ((x.2.1.1, x.2.1.2), ()))
noncomputable def LP {α : Type} (K : Nat) : LoopsBy α := noLoops
theorem eq (K : Nat) (a0 : Int) (a1 : List Int) (a2 : Int) : runF M sig (C K) (eqBy M.P) (LP K) RF (CP K) 20 Tryz.f162 (bodyOf Tryz.f162) (((), a0), ((a1, a2), ())) = (f K a0 a2).bind fun r => some (cv (((), a0), ((a1, a2), ())) r) := by
  unfold f
  try simp only [el]
  kernel_rfl
theorem rets (K : Nat) : ∀ x y, withCv (F K) cv x = some y → Rets M 162 sig x y := fun x y h => runF_rets (L := 20) (C_ok K) (eqBy_ok _) (by kernel_rfl) RF_ok (CP_ok K) (show LoopsOk M 1 (LP K) (loopsOf (bodyOf Tryz.f162)) from (show loopsOf (bodyOf Tryz.f162) = [] by kernel_rfl) ▸ noLoops_ok) (Nat.le_of_ble_eq_true rfl) Tryz.func162 (by kernel_rfl) ((eq K x.1.2 x.2.1.1 x.2.1.2).trans h)
end wire_Reader_wrong
namespace wire_Reader_Left
/-! ### wire_Reader_Left: function 163 -/
noncomputable def sig : Sig := ⟨(.ptr 0 0), [.cells 199 0 (.cons (.ty (.slice (.int .u8))) (.ty yI))], (.ty yI), [.cells 199 0 (.cons (.ty (.slice (.int .u8))) (.ty yI))]⟩
noncomputable def RF : RefitBy := noRefit
theorem RF_ok : RefitOk M 1 RF := noRefit_ok
noncomputable def C {α : Type} (K : Nat) : CallsBy α := noCalls
theorem C_ok {α : Type} (K : Nat) : CallsOk (α := α) M (C K) := noCalls_ok
noncomputable def CP {α : Type} (K : Nat) : CutBy α := noCuts
theorem CP_ok {α : Type} (K : Nat)  : CutsOk (α := α) M 1 (CP K) := noCuts_ok
noncomputable def f (K : Nat) (a0 : List Int) (a1 : Int) : Option (Int) := some (IntKind.i64.wrap ((↑a0.length : Int) - a1))
noncomputable def F (K : Nat) : sig.In → Option (Int) := fun x => f K x.2.1.1 x.2.1.2
noncomputable def cv : sig.In → Int → sig.Ou := fun x r => (r, ((x.2.1.1, x.2.1.2), ()))
noncomputable def LP {α : Type} (K : Nat) : LoopsBy α := noLoops
theorem eq (K : Nat) (a0 : List Int) (a1 : Int) : runF M sig (C K) (eqBy M.P) (LP K) RF (CP K) 20 Tryz.f163 (bodyOf Tryz.f163) ((), ((a0, a1), ())) = (f K a0 a1).bind fun r => some (cv ((), ((a0, a1), ())) r) := by
  unfold f
  try simp only [el]
  kernel_rfl
theorem rets (K : Nat) : ∀ x y, withCv (F K) cv x = some y → Rets M 163 sig x y := fun x y h => runF_rets (L := 20) (C_ok K) (eqBy_ok _) (by kernel_rfl) RF_ok (CP_ok K) (show LoopsOk M 1 (LP K) (loopsOf (bodyOf Tryz.f163)) from (show loopsOf (bodyOf Tryz.f163) = [] by kernel_rfl) ▸ noLoops_ok) (Nat.le_of_ble_eq_true rfl) Tryz.func163 (by kernel_rfl) ((eq K x.2.1.1 x.2.1.2).trans h)
end wire_Reader_Left
namespace wire_Reader_Raw
/-! ### wire_Reader_Raw: function 142 -/
noncomputable def sig : Sig := ⟨(.cons (.ptr 0 0) (.ty yI)), [.cells 199 0 (.cons (.ty (.slice (.int .u8))) (.ty yI))], (.cons (.ty (.slice (.int .u8))) (.ty .err)), [.cells 199 0 (.cons (.ty (.slice (.int .u8))) (.ty yI))]⟩
noncomputable def RF : RefitBy := noRefit
theorem RF_ok : RefitOk M 1 RF := noRefit_ok
noncomputable def C {α : Type} (K : Nat) : CallsBy α := (entryD 162 wire_Reader_wrong.sig (wire_Reader_wrong.F K) wire_Reader_wrong.cv (entryD 163 wire_Reader_Left.sig (wire_Reader_Left.F K) wire_Reader_Left.cv (entryD 98 slices_Clone_byte_byte.sig (slices_Clone_byte_byte.F K) slices_Clone_byte_byte.cv noCalls)))
theorem C_ok {α : Type} (K : Nat) : CallsOk (α := α) M (C K) := (entryD_ok (entryD_ok (entryD_ok noCalls_ok (by rfl) Tryz.func98 (by kernel_rfl) rfl (slices_Clone_byte_byte.rets K)) (by rfl) Tryz.func163 (by kernel_rfl) rfl (wire_Reader_Left.rets K)) (by rfl) Tryz.func162 (by kernel_rfl) rfl (wire_Reader_wrong.rets K))
noncomputable def CP {α : Type} (K : Nat) : CutBy α := (cpPut 1 (rpCut M bindC [.bool] [6] (C K) (eqBy M.P)) noCuts)
theorem CP_ok {α : Type} (K : Nat)  : CutsOk (α := α) M 1 (CP K) := (cpPut_ok (rpCut_ok (C_ok K) (eqBy_ok _) (by kernel_rfl)) noCuts_ok)
noncomputable def f (K : Nat) (a0 : Int) (a1 : List Int) (a2 : Int) : Option (List Int × Err × Int) := bindC (some (decide (a0 < (0 : Int)))) fun t => bif t then (wire_Reader_wrong.f K (1 : Int) a2).bind fun t => some ([], t, a2) else (wire_Reader_Left.f K a1 a2).bind fun t => bif decide (a0 > t) then (wire_Reader_wrong.f K (2 : Int) a2).bind fun t => some ([], t, a2) else bif decide ((0 : Int) ≤ IntKind.i64.wrap (IntKind.i64.wrap (a2 + a0) - a0)) && decide (IntKind.i64.wrap (IntKind.i64.wrap (a2 + a0) - a0) ≤ IntKind.i64.wrap (a2 + a0)) && decide (IntKind.i64.wrap (a2 + a0) ≤ (↑a1.length : Int)) && true then (slices_Clone_byte_byte.f K (List.drop (IntKind.i64.wrap (IntKind.i64.wrap (a2 + a0) - a0)).toNat (List.take (IntKind.i64.wrap (a2 + a0)).toNat a1))).bind fun t => some (t, Err.nil, IntKind.i64.wrap (a2 + a0)) else none
noncomputable def F (K : Nat) : sig.In → Option (List Int × Err × Int) := fun x => f K x.1.2 x.2.1.1 x.2.1.2
noncomputable def cv : sig.In → (List Int × Err × Int) → sig.Ou := fun x r => ((r.1, r.2.1), ((x.2.1.1, r.2.2), ()))
noncomputable def LP {α : Type} (K : Nat) : LoopsBy α := noLoops
theorem eq (K : Nat) (a0 : Int) (a1 : List Int) (a2 : Int) : runF M sig (C K) (eqBy M.P) (LP K) RF (CP K) 20 Tryz.f142 (bodyOf Tryz.f142) (((), a0), ((a1, a2), ())) = (f K a0 a1 a2).bind fun r => some (cv (((), a0), ((a1, a2), ())) r) := by
  unfold f
  try simp only [el]
  kernel_rfl
theorem rets (K : Nat) : ∀ x y, withCv (F K) cv x = some y → Rets M 142 sig x y := fun x y h => runF_rets (L := 20) (C_ok K) (eqBy_ok _) (by kernel_rfl) RF_ok (CP_ok K) (show LoopsOk M 1 (LP K) (loopsOf (bodyOf Tryz.f142)) from (show loopsOf (bodyOf Tryz.f142) = [] by kernel_rfl) ▸ noLoops_ok) (Nat.le_of_ble_eq_true rfl) Tryz.func142 (by kernel_rfl) ((eq K x.1.2 x.2.1.1 x.2.1.2).trans h)
end wire_Reader_Raw
namespace wire_Reader_look
/-! ### wire_Reader_look: function 192 -/
noncomputable def sig : Sig := ⟨(.cons (.ptr 0 0) (.ty (.int .u64))), [.cells 199 0 (.cons (.ty (.slice (.int .u8))) (.ty yI))], (.cons (.ty (.int .u64)) (.cons (.ty yI) (.ty yI))), [.cells 199 0 (.cons (.ty (.slice (.int .u8))) (.ty yI))]⟩
noncomputable def RF : RefitBy := noRefit
theorem RF_ok : RefitOk M 1 RF := noRefit_ok
noncomputable def C {α : Type} (K : Nat) : CallsBy α := noCalls
theorem C_ok {α : Type} (K : Nat) : CallsOk (α := α) M (C K) := noCalls_ok
noncomputable def CP {α : Type} (K : Nat) : CutBy α := (cpPut 8 (rpCut M bindC [.bool] [42] (C K) (eqBy M.P)) (cpPut 12 (rpCut M bindC [.bool] [54] (C K) (eqBy M.P)) noCuts))
theorem CP_ok {α : Type} (K : Nat)  : CutsOk (α := α) M 1 (CP K) := (cpPut_ok (rpCut_ok (C_ok K) (eqBy_ok _) (by kernel_rfl)) (cpPut_ok (rpCut_ok (C_ok K) (eqBy_ok _) (by kernel_rfl)) noCuts_ok))
noncomputable def l0.h : SSh := ⟨[0, 1, 7, 10], (.cons (.ptr 0 0) (.cons (.ty (.int .u64)) (.cons (.ty (.int .u64)) (.ty yI)))), [.cells 199 0 (.cons (.ty (.slice (.int .u8))) (.ty yI))]⟩
noncomputable def l0.x : SSh := ⟨[], .unit, [.cells 199 0 (.cons (.ty (.slice (.int .u8))) (.ty yI))]⟩
noncomputable def l0.r : SSh := ⟨[4, 5, 6], (.cons (.ty (.int .u64)) (.cons (.ty yI) (.ty yI))), [.cells 199 0 (.cons (.ty (.slice (.int .u8))) (.ty yI))]⟩
noncomputable def l0.cx : l0.h.I → Unit → l0.x.I := fun x r => ((), ((x.2.1.1, x.2.1.2), ()))
noncomputable def l0.cr : l0.h.I → (Int × Int × Int) → l0.r.I := fun x r => ((r.1, (r.2.1, r.2.2)), ((x.2.1.1, x.2.1.2), ()))
noncomputable def l0.f (K : Nat) : Nat → Int → Int → Int → List Int → Int → Option ((Unit) ⊕ (Int × Int × Int))
  | 0, _, _, _, _, _ => none
  | k + 1, a0, a1, a2, a3, a4 => bif decide (a2 < (10 : Int)) then bif IntKind.i64.wrap (a4 + a2) == (↑a3.length : Int) then some (Sum.inr ((0 : Int), (0 : Int), (2 : Int))) else bif decide ((0 : Int) ≤ IntKind.i64.wrap (a4 + a2)) && true then a3[(IntKind.i64.wrap (a4 + a2)).toNat]?.bind fun t => bindC (bif a2 == (9 : Int) then some (decide (t > (1 : Int))) else some false) fun t_1 => bif t_1 then some (Sum.inr ((0 : Int), (0 : Int), (3 : Int))) else bif decide (IntKind.i64.wrap ((7 : Int) * a2) < (0 : Int)) then none else bif IntKind.u8.wrap (↑(BitVec.ofInt (8 : Nat) t &&& BitVec.ofInt (8 : Nat) (128 : Int)).toNat : Int) != (0 : Int) then l0.f K k a0 (IntKind.u64.wrap (↑(BitVec.ofInt (64 : Nat) a1 ||| BitVec.ofInt (64 : Nat) (IntKind.u64.wrap (IntKind.u64.wrap (IntKind.u8.wrap (↑(BitVec.ofInt (8 : Nat) t &&& BitVec.ofInt (8 : Nat) (127 : Int)).toNat : Int)) * (2 : Int) ^ min (IntKind.i64.wrap ((7 : Int) * a2)).toNat (64 : Nat)))).toNat : Int)) (IntKind.i64.wrap (a2 + (1 : Int))) a3 a4 else bindC (bif t == (0 : Int) then some (decide (a2 > (0 : Int))) else some false) fun t_2 => bif t_2 then some (Sum.inr ((0 : Int), (0 : Int), (3 : Int))) else bif decide (IntKind.u64.wrap (↑(BitVec.ofInt (64 : Nat) a1 ||| BitVec.ofInt (64 : Nat) (IntKind.u64.wrap (IntKind.u64.wrap (IntKind.u8.wrap (↑(BitVec.ofInt (8 : Nat) t &&& BitVec.ofInt (8 : Nat) (127 : Int)).toNat : Int)) * (2 : Int) ^ min (IntKind.i64.wrap ((7 : Int) * a2)).toNat (64 : Nat)))).toNat : Int) > a0) then some (Sum.inr ((0 : Int), (0 : Int), (4 : Int))) else some (Sum.inr (IntKind.u64.wrap (↑(BitVec.ofInt (64 : Nat) a1 ||| BitVec.ofInt (64 : Nat) (IntKind.u64.wrap (IntKind.u64.wrap (IntKind.u8.wrap (↑(BitVec.ofInt (8 : Nat) t &&& BitVec.ofInt (8 : Nat) (127 : Int)).toNat : Int)) * (2 : Int) ^ min (IntKind.i64.wrap ((7 : Int) * a2)).toNat (64 : Nat)))).toNat : Int), IntKind.i64.wrap (a2 + (1 : Int)), (0 : Int))) else none else some (Sum.inl ())
noncomputable def l0.F (K : Nat) (k : Nat) : l0.h.I → Option ((Unit) ⊕ (Int × Int × Int)) := fun x => l0.f K k x.1.2.1 x.1.2.2.1 x.1.2.2.2 x.2.1.1 x.2.1.2
noncomputable def l0.lp {α : Type} (K : Nat) : St → Kn α → Option α := lpXRD 1 69 0 l0.h l0.x l0.r (l0.F K K) l0.cx l0.cr
noncomputable def l0.c : Code := nthLoop Tryz.f192 0
noncomputable def l0.LP {α : Type} (K : Nat) : LoopsBy α := noLoops
theorem l0.eq (K : Nat) (k : Nat) (a0 : Int) (a1 : Int) (a2 : Int) (a3 : List Int) (a4 : Int) : exec M (C K) (eqBy M.P) (l0.LP K) RF (CP K) 20 l0.c (Kl 1 l0.h (withCv (l0.F K k) (smap l0.cx l0.cr)) (backXR 1 0 l0.x l0.r)) (l0.h.enc 69 (((), (a0, (a1, a2))), ((a3, a4), ()))) = (l0.f K (k + 1) a0 a1 a2 a3 a4).bind fun r => some ((smap l0.cx l0.cr) (((), (a0, (a1, a2))), ((a3, a4), ())) r) := by
  rw [l0.f]
  try simp only [el]
  kernel_rfl
theorem l0.leads (K : Nat) : ∀ k x y, withCv (l0.F K k) (smap l0.cx l0.cr) x = some y → Leads M 1 (.loop l0.c) (l0.h.enc 69 x) (outXR 69 0 l0.x l0.r y).1 (outXR 69 0 l0.x l0.r y).2 :=
  loopXR_sound (C_ok K) (eqBy_ok _) (by kernel_rfl) RF_ok (CP_ok K) (show LoopsOk M 1 (l0.LP K) (loopsOf l0.c) from (show loopsOf l0.c = [] by kernel_rfl) ▸ (noLoops_ok)) (Nat.le_of_ble_eq_true rfl) (Nat.le_of_ble_eq_true rfl) (Nat.le_of_ble_eq_true rfl) (fun x => rfl) (fun k x => l0.eq K k x.1.2.1 x.1.2.2.1 x.1.2.2.2 x.2.1.1 x.2.1.2)
theorem l0.lp_ok {α : Type} (K : Nat) : LoopOk (α := α) M 1 (nthLoop Tryz.f192 0) (l0.lp K) := lpXRD_ok (Nat.le_of_ble_eq_true rfl) (l0.leads K K)
noncomputable def f (K : Nat) (a0 : Int) (a1 : List Int) (a2 : Int) : Option (Int × Int × Int) := (l0.f K K a0 (0 : Int) (0 : Int) a1 a2).bind fun t => Sum.elim (fun t => some ((0 : Int), (0 : Int), (3 : Int))) (fun t => some (t.1, t.2.1, t.2.2)) t
noncomputable def F (K : Nat) : sig.In → Option (Int × Int × Int) := fun x => f K x.1.2 x.2.1.1 x.2.1.2
noncomputable def cv : sig.In → (Int × Int × Int) → sig.Ou := fun x r => ((r.1, (r.2.1, r.2.2)), ((x.2.1.1, x.2.1.2), ()))
noncomputable def LP {α : Type} (K : Nat) : LoopsBy α := (lpPut 3 (l0.lp K) noLoops)
theorem eq (K : Nat) (a0 : Int) (a1 : List Int) (a2 : Int) : runF M sig (C K) (eqBy M.P) (LP K) RF (CP K) 20 Tryz.f192 (bodyOf Tryz.f192) (((), a0), ((a1, a2), ())) = (f K a0 a1 a2).bind fun r => some (cv (((), a0), ((a1, a2), ())) r) := by
  unfold f
  try simp only [el]
  kernel_rfl
theorem rets (K : Nat) : ∀ x y, withCv (F K) cv x = some y → Rets M 192 sig x y := fun x y h => runF_rets (L := 20) (C_ok K) (eqBy_ok _) (by kernel_rfl) RF_ok (CP_ok K) (show LoopsOk M 1 (LP K) (loopsOf (bodyOf Tryz.f192)) from (show loopsOf (bodyOf Tryz.f192) = [nthLoop Tryz.f192 0] by kernel_rfl) ▸ (loopsOk_put (key := 3) (by kernel_rfl) (l0.lp_ok K) noLoops_ok (by kernel_rfl))) (Nat.le_of_ble_eq_true rfl) Tryz.func192 (by kernel_rfl) ((eq K x.1.2 x.2.1.1 x.2.1.2).trans h)
end wire_Reader_look
namespace wire_Reader_Uint
/-! ### wire_Reader_Uint: function 164 -/
noncomputable def sig : Sig := ⟨(.cons (.ptr 0 0) (.ty (.int .u64))), [.cells 199 0 (.cons (.ty (.slice (.int .u8))) (.ty yI))], (.cons (.ty (.int .u64)) (.ty .err)), [.cells 199 0 (.cons (.ty (.slice (.int .u8))) (.ty yI))]⟩
noncomputable def RF : RefitBy := noRefit
theorem RF_ok : RefitOk M 1 RF := noRefit_ok
noncomputable def C {α : Type} (K : Nat) : CallsBy α := (entryD 192 wire_Reader_look.sig (wire_Reader_look.F K) wire_Reader_look.cv (entryD 162 wire_Reader_wrong.sig (wire_Reader_wrong.F K) wire_Reader_wrong.cv noCalls))
theorem C_ok {α : Type} (K : Nat) : CallsOk (α := α) M (C K) := (entryD_ok (entryD_ok noCalls_ok (by rfl) Tryz.func162 (by kernel_rfl) rfl (wire_Reader_wrong.rets K)) (by rfl) Tryz.func192 (by kernel_rfl) rfl (wire_Reader_look.rets K))
noncomputable def CP {α : Type} (K : Nat) : CutBy α := noCuts
theorem CP_ok {α : Type} (K : Nat)  : CutsOk (α := α) M 1 (CP K) := noCuts_ok
noncomputable def f (K : Nat) (a0 : Int) (a1 : List Int) (a2 : Int) : Option (Int × Err × Int) := (wire_Reader_look.f K a0 a1 a2).bind fun t => bif t.2.2 != (0 : Int) then (wire_Reader_wrong.f K t.2.2 a2).bind fun t => some ((0 : Int), t, a2) else some (t.1, Err.nil, IntKind.i64.wrap (a2 + t.2.1))
noncomputable def F (K : Nat) : sig.In → Option (Int × Err × Int) := fun x => f K x.1.2 x.2.1.1 x.2.1.2
noncomputable def cv : sig.In → (Int × Err × Int) → sig.Ou := fun x r => ((r.1, r.2.1), ((x.2.1.1, r.2.2), ()))
noncomputable def LP {α : Type} (K : Nat) : LoopsBy α := noLoops
theorem eq (K : Nat) (a0 : Int) (a1 : List Int) (a2 : Int) : runF M sig (C K) (eqBy M.P) (LP K) RF (CP K) 20 Tryz.f164 (bodyOf Tryz.f164) (((), a0), ((a1, a2), ())) = (f K a0 a1 a2).bind fun r => some (cv (((), a0), ((a1, a2), ())) r) := by
  unfold f
  try simp only [el]
  kernel_rfl
theorem rets (K : Nat) : ∀ x y, withCv (F K) cv x = some y → Rets M 164 sig x y := fun x y h => runF_rets (L := 20) (C_ok K) (eqBy_ok _) (by kernel_rfl) RF_ok (CP_ok K) (show LoopsOk M 1 (LP K) (loopsOf (bodyOf Tryz.f164)) from (show loopsOf (bodyOf Tryz.f164) = [] by kernel_rfl) ▸ noLoops_ok) (Nat.le_of_ble_eq_true rfl) Tryz.func164 (by kernel_rfl) ((eq K x.1.2 x.2.1.1 x.2.1.2).trans h)
end wire_Reader_Uint
namespace code_taker_upto
/-! ### code_taker_upto: function 143 -/
noncomputable def sig : Sig := ⟨(.cons (.ptr 0 0) (.ty yI)), [.cells 196 0 (.cons (.ptr 1 0) (.ty .err)), .cells 199 0 (.cons (.ty (.slice (.int .u8))) (.ty yI))], (.ty yI), [.cells 196 0 (.cons (.ptr 1 0) (.ty .err)), .cells 199 0 (.cons (.ty (.slice (.int .u8))) (.ty yI))]⟩
noncomputable def RF : RefitBy := noRefit
theorem RF_ok : RefitOk M 2 RF := noRefit_ok
noncomputable def C {α : Type} (K : Nat) : CallsBy α := (entryD 164 wire_Reader_Uint.sig (wire_Reader_Uint.F K) wire_Reader_Uint.cv noCalls)
theorem C_ok {α : Type} (K : Nat) : CallsOk (α := α) M (C K) := (entryD_ok noCalls_ok (by rfl) Tryz.func164 (by kernel_rfl) rfl (wire_Reader_Uint.rets K))
noncomputable def CP {α : Type} (K : Nat) : CutBy α := noCuts
theorem CP_ok {α : Type} (K : Nat)  : CutsOk (α := α) M 2 (CP K) := noCuts_ok
noncomputable def f (K : Nat) (a0 : Int) (a1 : Err) (a2 : List Int) (a3 : Int) : Option (Int × Err × Int) := bif bif true then !a1.isNil else a1.isNil then some ((0 : Int), a1, a3) else (wire_Reader_Uint.f K (IntKind.u64.wrap a0) a2 a3).bind fun t => some (IntKind.i64.wrap t.1, t.2.1, t.2.2)
noncomputable def F (K : Nat) : sig.In → Option (Int × Err × Int) := fun x => f K x.1.2 x.2.1.2 x.2.2.1.1 x.2.2.1.2
noncomputable def cv : sig.In → (Int × Err × Int) → sig.Ou := fun x r => (r.1, (((), r.2.1), ((x.2.2.1.1, r.2.2), ())))
noncomputable def LP {α : Type} (K : Nat) : LoopsBy α := noLoops
theorem eq (K : Nat) (a0 : Int) (a1 : Err) (a2 : List Int) (a3 : Int) : runF M sig (C K) (eqBy M.P) (LP K) RF (CP K) 20 Tryz.f143 (bodyOf Tryz.f143) (((), a0), (((), a1), ((a2, a3), ()))) = (f K a0 a1 a2 a3).bind fun r => some (cv (((), a0), (((), a1), ((a2, a3), ()))) r) := by
  unfold f
  try simp only [el]
  kernel_rfl
theorem rets (K : Nat) : ∀ x y, withCv (F K) cv x = some y → Rets M 143 sig x y := fun x y h => runF_rets (L := 20) (C_ok K) (eqBy_ok _) (by kernel_rfl) RF_ok (CP_ok K) (show LoopsOk M 2 (LP K) (loopsOf (bodyOf Tryz.f143)) from (show loopsOf (bodyOf Tryz.f143) = [] by kernel_rfl) ▸ noLoops_ok) (Nat.le_of_ble_eq_true rfl) Tryz.func143 (by kernel_rfl) ((eq K x.1.2 x.2.1.2 x.2.2.1.1 x.2.2.1.2).trans h)
end code_taker_upto
namespace wire_Reader_Int
/-! ### wire_Reader_Int: function 165 -/
noncomputable def sig : Sig := ⟨(.ptr 0 0), [.cells 199 0 (.cons (.ty (.slice (.int .u8))) (.ty yI))], (.cons (.ty yI) (.ty .err)), [.cells 199 0 (.cons (.ty (.slice (.int .u8))) (.ty yI))]⟩
noncomputable def RF : RefitBy := noRefit
theorem RF_ok : RefitOk M 1 RF := noRefit_ok
noncomputable def C {α : Type} (K : Nat) : CallsBy α := (entryD 164 wire_Reader_Uint.sig (wire_Reader_Uint.F K) wire_Reader_Uint.cv noCalls)
theorem C_ok {α : Type} (K : Nat) : CallsOk (α := α) M (C K) := (entryD_ok noCalls_ok (by rfl) Tryz.func164 (by kernel_rfl) rfl (wire_Reader_Uint.rets K))
noncomputable def CP {α : Type} (K : Nat) : CutBy α := noCuts
theorem CP_ok {α : Type} (K : Nat)  : CutsOk (α := α) M 1 (CP K) := noCuts_ok
noncomputable def f (K : Nat) (a0 : List Int) (a1 : Int) : Option (Int × Err × Int) := (wire_Reader_Uint.f K (18446744073709551615 : Int) a0 a1).bind fun t => some (IntKind.i64.wrap (↑(BitVec.ofInt (64 : Nat) (IntKind.i64.wrap (t.1.fdiv ((2 : Int) ^ (1 : Nat)))) ^^^ BitVec.ofInt (64 : Nat) (IntKind.i64.wrap ((0 : Int) - IntKind.i64.wrap (IntKind.u64.wrap (↑(BitVec.ofInt (64 : Nat) t.1 &&& BitVec.ofInt (64 : Nat) (1 : Int)).toNat : Int))))).toNat : Int), t.2.1, t.2.2)
noncomputable def F (K : Nat) : sig.In → Option (Int × Err × Int) := fun x => f K x.2.1.1 x.2.1.2
noncomputable def cv : sig.In → (Int × Err × Int) → sig.Ou := fun x r => ((r.1, r.2.1), ((x.2.1.1, r.2.2), ()))
noncomputable def LP {α : Type} (K : Nat) : LoopsBy α := noLoops
theorem eq (K : Nat) (a0 : List Int) (a1 : Int) : runF M sig (C K) (eqBy M.P) (LP K) RF (CP K) 20 Tryz.f165 (bodyOf Tryz.f165) ((), ((a0, a1), ())) = (f K a0 a1).bind fun r => some (cv ((), ((a0, a1), ())) r) := by
  unfold f
  try simp only [el]
  kernel_rfl
theorem rets (K : Nat) : ∀ x y, withCv (F K) cv x = some y → Rets M 165 sig x y := fun x y h => runF_rets (L := 20) (C_ok K) (eqBy_ok _) (by kernel_rfl) RF_ok (CP_ok K) (show LoopsOk M 1 (LP K) (loopsOf (bodyOf Tryz.f165)) from (show loopsOf (bodyOf Tryz.f165) = [] by kernel_rfl) ▸ noLoops_ok) (Nat.le_of_ble_eq_true rfl) Tryz.func165 (by kernel_rfl) ((eq K x.2.1.1 x.2.1.2).trans h)
end wire_Reader_Int
namespace code_taker_signed
/-! ### code_taker_signed: function 144 -/
noncomputable def sig : Sig := ⟨(.ptr 0 0), [.cells 196 0 (.cons (.ptr 1 0) (.ty .err)), .cells 199 0 (.cons (.ty (.slice (.int .u8))) (.ty yI))], (.ty yI), [.cells 196 0 (.cons (.ptr 1 0) (.ty .err)), .cells 199 0 (.cons (.ty (.slice (.int .u8))) (.ty yI))]⟩
noncomputable def RF : RefitBy := noRefit
theorem RF_ok : RefitOk M 2 RF := noRefit_ok
noncomputable def C {α : Type} (K : Nat) : CallsBy α := (entryD 165 wire_Reader_Int.sig (wire_Reader_Int.F K) wire_Reader_Int.cv noCalls)
theorem C_ok {α : Type} (K : Nat) : CallsOk (α := α) M (C K) := (entryD_ok noCalls_ok (by rfl) Tryz.func165 (by kernel_rfl) rfl (wire_Reader_Int.rets K))
noncomputable def CP {α : Type} (K : Nat) : CutBy α := noCuts
theorem CP_ok {α : Type} (K : Nat)  : CutsOk (α := α) M 2 (CP K) := noCuts_ok
noncomputable def f (K : Nat) (a0 : Err) (a1 : List Int) (a2 : Int) : Option (Int × Err × Int) := bif bif true then !a0.isNil else a0.isNil then some ((0 : Int), a0, a2) else wire_Reader_Int.f K a1 a2
noncomputable def F (K : Nat) : sig.In → Option (Int × Err × Int) := fun x => f K x.2.1.2 x.2.2.1.1 x.2.2.1.2
noncomputable def cv : sig.In → (Int × Err × Int) → sig.Ou := fun x r => (r.1, (((), r.2.1), ((x.2.2.1.1, r.2.2), ())))
noncomputable def LP {α : Type} (K : Nat) : LoopsBy α := noLoops
theorem eq (K : Nat) (a0 : Err) (a1 : List Int) (a2 : Int) : runF M sig (C K) (eqBy M.P) (LP K) RF (CP K) 20 Tryz.f144 (bodyOf Tryz.f144) ((), (((), a0), ((a1, a2), ()))) = (f K a0 a1 a2).bind fun r => some (cv ((), (((), a0), ((a1, a2), ()))) r) := by
  unfold f
  try simp only [el]
  kernel_rfl
theorem rets (K : Nat) : ∀ x y, withCv (F K) cv x = some y → Rets M 144 sig x y := fun x y h => runF_rets (L := 20) (C_ok K) (eqBy_ok _) (by kernel_rfl) RF_ok (CP_ok K) (show LoopsOk M 2 (LP K) (loopsOf (bodyOf Tryz.f144)) from (show loopsOf (bodyOf Tryz.f144) = [] by kernel_rfl) ▸ noLoops_ok) (Nat.le_of_ble_eq_true rfl) Tryz.func144 (by kernel_rfl) ((eq K x.2.1.2 x.2.2.1.1 x.2.2.1.2).trans h)
end code_taker_signed
end
end Go.Proofs.YtdjkdmjdcdljmaaGreat.AR
