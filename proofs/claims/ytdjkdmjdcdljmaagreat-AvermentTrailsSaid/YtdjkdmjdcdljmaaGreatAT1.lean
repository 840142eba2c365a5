/- Written by a program of this session: what Go functions come to, as plain functions, each shown by the second machine. No condition. -/
import Derived.Test.YtdjkdmjdcdljmaaGreatAT0
namespace Go.Proofs.YtdjkdmjdcdljmaaGreat.AT
open Go.Proofs.YtdjkdmjdcdljmaaGreatX
noncomputable section
set_option linter.unusedVariables false
set_option linter.unusedSimpArgs false
set_option maxRecDepth 1000000
set_option maxHeartbeats 4000000
namespace ir_copied
noncomputable def sig : Sig := ⟨(.agg (.cons (.ty .str) (.cons (.ty yI) (.cons (.ty yI) (.ty (.slice yBlock)))))), [], (.agg (.cons (.ty .str) (.cons (.ty yI) (.cons (.ty yI) (.ty (.slice yBlock)))))), []⟩
noncomputable def C {α : Type} (K : Nat) : CallsBy α := callsE (M := M) [slices_Clone_ir_Block_ir_Block_own.e K, slices_Clone_ir_Insn_ir_Insn_own.e K, slices_Clone_int_int.e K]
noncomputable def RF : RefitBy := (rfPut 0 47 11 ⟨[1, 2, 3, 4, 12, 13], (.cons (.ptr 0 0) (.cons (.ptr 1 0) (.cons (.ty yI) (.cons (.ty (.slice yInsn)) (.cons (.ty yI) (.ty yI)))))), [.cells 47 0 (.cons (.ty .str) (.cons (.ty yI) (.cons (.ty yI) (.own 2)))), .cells 47 0 (.cons (.ty .str) (.cons (.ty yI) (.cons (.ty yI) (.own 3)))), .list 91 yBlock [], .list 91 yBlock []]⟩ noRefit)
noncomputable def l1.h : SSh := ⟨[1, 2, 3, 4, 12, 13, 24, 25], (.cons (.ptr 0 0) (.cons (.ptr 1 0) (.cons (.ty yI) (.cons (.own 2) (.cons (.ty yI) (.cons (.ty yI) (.cons (.ty yI) (.ty yI)))))))), [.cells 47 0 (.cons (.ty .str) (.cons (.ty yI) (.cons (.ty yI) (.own 3)))), .cells 47 0 (.cons (.ty .str) (.cons (.ty yI) (.cons (.ty yI) (.own 4)))), .list 144 yInsn [], .list 91 yBlock [], .list 91 yBlock []]⟩
noncomputable def l1.x : SSh := ⟨[1, 2, 3, 4, 12, 13], (.cons (.ptr 0 0) (.cons (.ptr 1 0) (.cons (.ty yI) (.cons (.own 2) (.cons (.ty yI) (.ty yI)))))), [.cells 47 0 (.cons (.ty .str) (.cons (.ty yI) (.cons (.ty yI) (.own 3)))), .cells 47 0 (.cons (.ty .str) (.cons (.ty yI) (.cons (.ty yI) (.own 4)))), .list 144 yInsn [], .list 91 yBlock [], .list 91 yBlock []]⟩
noncomputable def l1.cx : l1.h.I → (List LInsn) → l1.x.I := fun x r => (((), ((), (x.1.2.2.1, ((), (x.1.2.2.2.2.1, x.1.2.2.2.2.2.1))))), ((x.2.1.1, (x.2.1.2.1, (x.2.1.2.2.1, ()))), ((x.2.2.1.1, (x.2.2.1.2.1, (x.2.2.1.2.2.1, ()))), (r, (x.2.2.2.2.1, (x.2.2.2.2.2.1, ()))))))
noncomputable def l1.f (K : Nat) : Nat → Int → Int → List LInsn → Option (List LInsn)
  | 0, _, _, _ => none
  | k + 1, a3, a4, a11 => bif decide (a4 < a3) then bif decide ((0 : Int) ≤ a4) then bif a4.toNat.blt a11.length then a11[a4.toNat]?.bind fun t => (slices_Clone_int_int.f K t.2.2.2.2.2).bind fun t => bif decide ((0 : Int) ≤ a4) then bif a4.toNat.blt a11.length then a11[a4.toNat]?.bind fun t_1 => l1.f K k a3 (IntKind.i64.wrap (a4 + (1 : Int))) (a11.set a4.toNat (t_1.1, t_1.2.1, t_1.2.2.1, t_1.2.2.2.1, t_1.2.2.2.2.1, t)) else none else none else none else none else some a11
noncomputable def l1.F (K : Nat) (k : Nat) : l1.h.I → Option (List LInsn) := fun x => l1.f K k x.1.2.2.2.2.2.2.1 x.1.2.2.2.2.2.2.2 x.2.2.2.1
noncomputable def l1.lp {α : Type} (K : Nat) : St → Kn α → Option α := lpX 0 47 2 l1.h l1.x (l1.F K K) l1.cx
theorem l1.ok {α : Type} (K : Nat) : LoopOk (α := α) M 0 (nthLoop Tryz.f50 1) (l1.lp K) := lpX_okS (C := (C K)) (LP := noLoops) (RF := RF) (CP := noCuts) (L := 20) callsE_ok mxd (show RefitOk M 0 RF from (rfPut_ok (lb rfl) noRefit_ok)) noCuts_ok (noL (by kernel_rfl)) (lb rfl) (lb rfl) (fun x => rfl) fun k x => by
  rw [withCv_def]
  unfold l1.F
  rw [l1.f]
  try simp only [el]
  kernel_rfl
noncomputable def l0.h : SSh := ⟨[1, 2, 12, 13], (.cons (.ptr 0 0) (.cons (.ptr 1 0) (.cons (.ty yI) (.ty yI)))), [.cells 47 0 (.cons (.ty .str) (.cons (.ty yI) (.cons (.ty yI) (.own 2)))), .cells 47 0 (.cons (.ty .str) (.cons (.ty yI) (.cons (.ty yI) (.own 3)))), .list 91 yBlock [], .list 91 yBlock []]⟩
noncomputable def l0.x : SSh := ⟨[1, 2], (.cons (.ptr 0 0) (.ptr 1 0)), [.cells 47 0 (.cons (.ty .str) (.cons (.ty yI) (.cons (.ty yI) (.own 2)))), .cells 47 0 (.cons (.ty .str) (.cons (.ty yI) (.cons (.ty yI) (.own 3)))), .list 91 yBlock [], .list 91 yBlock []]⟩
noncomputable def l0.cx : l0.h.I → (List LBlock) → l0.x.I := fun x r => (((), ()), ((x.2.1.1, (x.2.1.2.1, (x.2.1.2.2.1, ()))), ((x.2.2.1.1, (x.2.2.1.2.1, (x.2.2.1.2.2.1, ()))), (r, (x.2.2.2.2.1, ())))))
noncomputable def l0.f (K : Nat) : Nat → Int → Int → List LBlock → Option (List LBlock)
  | 0, _, _, _ => none
  | k + 1, a0, a1, a8 => bif decide (a1 < a0) then bif decide ((0 : Int) ≤ a1) then bif a1.toNat.blt a8.length then a8[a1.toNat]?.bind fun t => (slices_Clone_ir_Insn_ir_Insn_own.f K t.1).bind fun t => (l1.f K K (↑t.length : Int) (0 : Int) t).bind fun t => bif decide ((0 : Int) ≤ a1) then bif a1.toNat.blt a8.length then a8[a1.toNat]?.bind fun t_1 => l0.f K k a0 (IntKind.i64.wrap (a1 + (1 : Int))) (a8.set a1.toNat (t, t_1.2.1, t_1.2.2.1, t_1.2.2.2.1, t_1.2.2.2.2)) else none else none else none else none else some a8
noncomputable def l0.F (K : Nat) (k : Nat) : l0.h.I → Option (List LBlock) := fun x => l0.f K k x.1.2.2.1 x.1.2.2.2 x.2.2.2.1
noncomputable def l0.lp {α : Type} (K : Nat) : St → Kn α → Option α := lpX 0 47 0 l0.h l0.x (l0.F K K) l0.cx
theorem l0.ok {α : Type} (K : Nat) : LoopOk (α := α) M 0 (nthLoop Tryz.f50 0) (l0.lp K) := lpX_okS (C := (C K)) (LP := (lpPut 7 (l1.lp K) noLoops)) (RF := RF) (CP := noCuts) (L := 20) callsE_ok mxd (show RefitOk M 0 RF from (rfPut_ok (lb rfl) noRefit_ok)) noCuts_ok (show LoopsOk M 0 (lpPut 7 (l1.lp K) noLoops) (loopsOf (nthLoop Tryz.f50 0)) from (show loopsOf (nthLoop Tryz.f50 0) = [nthLoop Tryz.f50 1] by kernel_rfl) ▸ (loopsOk_put (key := 7) (by kernel_rfl) (l1.ok K) noLoops_ok (by kernel_rfl))) (lb rfl) (lb rfl) (fun x => rfl) fun k x => by
  rw [withCv_def]
  unfold l0.F
  rw [l0.f]
  try simp only [el]
  kernel_rfl
noncomputable def f (K : Nat) (a3 : List LBlock) : Option (List LBlock) := (slices_Clone_ir_Block_ir_Block_own.f K a3).bind fun t => l0.f K K (↑t.length : Int) (0 : Int) t
noncomputable def F (K : Nat) : sig.In → Option (List LBlock) := fun x => f K x.1.2.2.2
noncomputable def cv : sig.In → (List LBlock) → sig.Ou := fun x r => ((x.1.1, (x.1.2.1, (x.1.2.2.1, r))), ())
theorem rets (K : Nat) : ∀ x y, withCv (F K) cv x = some y → Rets M 50 sig x y := runF_retsS (C := (C K)) (LP := (lpPut 3 (l0.lp K) (lpPut 7 (l1.lp K) noLoops))) (RF := RF) (CP := noCuts) callsE_ok mxd (show RefitOk M 0 RF from (rfPut_ok (lb rfl) noRefit_ok)) noCuts_ok (show LoopsOk M 0 (lpPut 3 (l0.lp K) (lpPut 7 (l1.lp K) noLoops)) (loopsOf (bodyOf Tryz.f50)) from (show loopsOf (bodyOf Tryz.f50) = [nthLoop Tryz.f50 0, nthLoop Tryz.f50 1] by kernel_rfl) ▸ (loopsOk_put (key := 3) (by kernel_rfl) (l0.ok K) (loopsOk_put (key := 7) (by kernel_rfl) (l1.ok K) noLoops_ok (by kernel_rfl)) (by kernel_rfl))) (lb rfl) Tryz.func50 (by kernel_rfl) fun x => by
  rw [withCv_def]
  unfold F f
  try simp only [el]
  kernel_rfl
noncomputable def e (K : Nat) : En M := ⟨50, sig, _, F K, cv, by rfl, Tryz.f50, Tryz.func50, by kernel_rfl, rfl, rets K⟩
end ir_copied
namespace ir_Copy
noncomputable def sig : Sig := ⟨(.agg (.cons (.ty (.slice yI)) (.cons (.ty (.slice yFunc)) (.ty (.slice yImport))))), [], (.agg (.cons (.ty (.slice yI)) (.cons (.ty (.slice yFunc)) (.ty (.slice yImport))))), []⟩
noncomputable def C {α : Type} (K : Nat) : CallsBy α := callsE (M := M) [slices_Clone_int64_int64_own.e K, slices_Clone_ir_Import_ir_Import_own.e K, ir_copied.e K]
noncomputable def l0.h : SSh := ⟨[2, 3, 14, 15, 16], (.cons (.ptr 0 0) (.cons (.ptr 1 0) (.cons (.ty (.slice yFunc)) (.cons (.ty yI) (.ty yI))))), [.cells 35 0 (.cons (.own 2) (.cons (.own 3) (.own 4))), .cells 35 0 (.cons (.own 5) (.cons (.own 6) (.own 7))), .list 2 yI [], .list 47 yFunc [], .list 110 yImport [], .list 2 yI [], .list 47 yFunc [], .list 110 yImport []]⟩
noncomputable def l0.x : SSh := ⟨[2, 3], (.cons (.ptr 0 0) (.ptr 1 0)), [.cells 35 0 (.cons (.own 2) (.cons (.own 3) (.own 4))), .cells 35 0 (.cons (.own 5) (.cons (.own 6) (.own 7))), .list 2 yI [], .list 47 yFunc [], .list 110 yImport [], .list 2 yI [], .list 47 yFunc [], .list 110 yImport []]⟩
noncomputable def l0.cx : l0.h.I → (List LFunc) → l0.x.I := fun x r => (((), ()), (((), ((), ())), (((), ((), ())), (x.2.2.2.1, (x.2.2.2.2.1, (x.2.2.2.2.2.1, (x.2.2.2.2.2.2.1, (r, (x.2.2.2.2.2.2.2.2.1, ())))))))))
noncomputable def l0.f (K : Nat) : Nat → List LFunc → Int → Int → List LFunc → Option (List LFunc)
  | 0, _, _, _, _ => none
  | k + 1, a0, a1, a2, a7 => bif decide (a2 < a1) then bif decide ((0 : Int) ≤ a2) && true then a0[a2.toNat]?.bind fun t => (ir_copied.f K t.2.2.2).bind fun t_1 => bif (a7.length + [(t.1, t.2.1, t.2.2.1, t_1)].length).ble (100000 : Nat) then l0.f K k a0 a1 (IntKind.i64.wrap (a2 + (1 : Int))) (a7 ++ [(t.1, t.2.1, t.2.2.1, t_1)]) else none else none else some a7
noncomputable def l0.F (K : Nat) (k : Nat) : l0.h.I → Option (List LFunc) := fun x => l0.f K k x.1.2.2.1 x.1.2.2.2.1 x.1.2.2.2.2 x.2.2.2.2.2.2.2.1
noncomputable def l0.lp {α : Type} (K : Nat) : St → Kn α → Option α := lpX 0 29 0 l0.h l0.x (l0.F K K) l0.cx
theorem l0.ok {α : Type} (K : Nat) : LoopOk (α := α) M 0 (nthLoop Tryz.f11 0) (l0.lp K) := lpX_okS (C := (C K)) (LP := noLoops) (RF := noRefit) (CP := noCuts) (L := 20) callsE_ok mxd noRefit_ok noCuts_ok (noL (by kernel_rfl)) (lb rfl) (lb rfl) (fun x => rfl) fun k x => by
  rw [withCv_def]
  unfold l0.F
  rw [l0.f]
  try simp only [el]
  kernel_rfl
noncomputable def f (K : Nat) (a0 : List Int) (a1 : List LFunc) (a2 : List LImport) : Option (List Int × List LFunc × List LImport) := (slices_Clone_int64_int64_own.f K a0).bind fun t => (slices_Clone_ir_Import_ir_Import_own.f K a2).bind fun t_1 => (l0.f K K a1 (↑a1.length : Int) (0 : Int) []).bind fun t_2 => some (t, t_2, t_1)
noncomputable def F (K : Nat) : sig.In → Option (List Int × List LFunc × List LImport) := fun x => f K x.1.1 x.1.2.1 x.1.2.2
noncomputable def cv : sig.In → (List Int × List LFunc × List LImport) → sig.Ou := fun x r => ((r.1, (r.2.1, r.2.2)), ())
theorem rets (K : Nat) : ∀ x y, withCv (F K) cv x = some y → Rets M 11 sig x y := runF_retsS (C := (C K)) (LP := (lpPut 3 (l0.lp K) noLoops)) (RF := noRefit) (CP := noCuts) callsE_ok mxd noRefit_ok noCuts_ok (show LoopsOk M 0 (lpPut 3 (l0.lp K) noLoops) (loopsOf (bodyOf Tryz.f11)) from (show loopsOf (bodyOf Tryz.f11) = [nthLoop Tryz.f11 0] by kernel_rfl) ▸ (loopsOk_put (key := 3) (by kernel_rfl) (l0.ok K) noLoops_ok (by kernel_rfl))) (lb rfl) Tryz.func11 (by kernel_rfl) fun x => by
  rw [withCv_def]
  unfold F f
  try simp only [el]
  kernel_rfl
noncomputable def e (K : Nat) : En M := ⟨11, sig, _, F K, cv, by rfl, Tryz.f11, Tryz.func11, by kernel_rfl, rfl, rets K⟩
end ir_Copy
namespace ir_Copy_own
noncomputable def sig : Sig := ⟨(.agg (.cons (.ty (.slice yI)) (.cons (.ty (.slice yFunc)) (.ty (.slice yImport))))), [], (.agg (.cons (.own 0) (.cons (.own 1) (.own 2)))), [.list 2 yI [], .list 47 yFunc [], .list 110 yImport []]⟩
noncomputable def C {α : Type} (K : Nat) : CallsBy α := callsE (M := M) [slices_Clone_int64_int64_own.e K, slices_Clone_ir_Import_ir_Import_own.e K, ir_copied.e K]
noncomputable def l0.h : SSh := ⟨[2, 3, 14, 15, 16], (.cons (.ptr 0 0) (.cons (.ptr 1 0) (.cons (.ty (.slice yFunc)) (.cons (.ty yI) (.ty yI))))), [.cells 35 0 (.cons (.own 2) (.cons (.own 3) (.own 4))), .cells 35 0 (.cons (.own 5) (.cons (.own 6) (.own 7))), .list 2 yI [], .list 47 yFunc [], .list 110 yImport [], .list 2 yI [], .list 47 yFunc [], .list 110 yImport []]⟩
noncomputable def l0.x : SSh := ⟨[2, 3], (.cons (.ptr 0 0) (.ptr 1 0)), [.cells 35 0 (.cons (.own 2) (.cons (.own 3) (.own 4))), .cells 35 0 (.cons (.own 5) (.cons (.own 6) (.own 7))), .list 2 yI [], .list 47 yFunc [], .list 110 yImport [], .list 2 yI [], .list 47 yFunc [], .list 110 yImport []]⟩
noncomputable def l0.cx : l0.h.I → (List LFunc) → l0.x.I := fun x r => (((), ()), (((), ((), ())), (((), ((), ())), (x.2.2.2.1, (x.2.2.2.2.1, (x.2.2.2.2.2.1, (x.2.2.2.2.2.2.1, (r, (x.2.2.2.2.2.2.2.2.1, ())))))))))
noncomputable def l0.f (K : Nat) : Nat → List LFunc → Int → Int → List LFunc → Option (List LFunc)
  | 0, _, _, _, _ => none
  | k + 1, a0, a1, a2, a7 => bif decide (a2 < a1) then bif decide ((0 : Int) ≤ a2) && true then a0[a2.toNat]?.bind fun t => (ir_copied.f K t.2.2.2).bind fun t_1 => bif (a7.length + [(t.1, t.2.1, t.2.2.1, t_1)].length).ble (100000 : Nat) then l0.f K k a0 a1 (IntKind.i64.wrap (a2 + (1 : Int))) (a7 ++ [(t.1, t.2.1, t.2.2.1, t_1)]) else none else none else some a7
noncomputable def l0.F (K : Nat) (k : Nat) : l0.h.I → Option (List LFunc) := fun x => l0.f K k x.1.2.2.1 x.1.2.2.2.1 x.1.2.2.2.2 x.2.2.2.2.2.2.2.1
noncomputable def l0.lp {α : Type} (K : Nat) : St → Kn α → Option α := lpX 0 29 0 l0.h l0.x (l0.F K K) l0.cx
theorem l0.ok {α : Type} (K : Nat) : LoopOk (α := α) M 0 (nthLoop Tryz.f11 0) (l0.lp K) := lpX_okS (C := (C K)) (LP := noLoops) (RF := noRefit) (CP := noCuts) (L := 20) callsE_ok mxd noRefit_ok noCuts_ok (noL (by kernel_rfl)) (lb rfl) (lb rfl) (fun x => rfl) fun k x => by
  rw [withCv_def]
  unfold l0.F
  rw [l0.f]
  try simp only [el]
  kernel_rfl
noncomputable def f (K : Nat) (a0 : List Int) (a1 : List LFunc) (a2 : List LImport) : Option (List Int × List LFunc × List LImport) := (slices_Clone_int64_int64_own.f K a0).bind fun t => (slices_Clone_ir_Import_ir_Import_own.f K a2).bind fun t_1 => (l0.f K K a1 (↑a1.length : Int) (0 : Int) []).bind fun t_2 => some (t, t_2, t_1)
noncomputable def F (K : Nat) : sig.In → Option (List Int × List LFunc × List LImport) := fun x => f K x.1.1 x.1.2.1 x.1.2.2
noncomputable def cv : sig.In → (List Int × List LFunc × List LImport) → sig.Ou := fun x r => (((), ((), ())), (r.1, (r.2.1, (r.2.2, ()))))
theorem rets (K : Nat) : ∀ x y, withCv (F K) cv x = some y → Rets M 11 sig x y := runF_retsS (C := (C K)) (LP := (lpPut 3 (l0.lp K) noLoops)) (RF := noRefit) (CP := noCuts) callsE_ok mxd noRefit_ok noCuts_ok (show LoopsOk M 0 (lpPut 3 (l0.lp K) noLoops) (loopsOf (bodyOf Tryz.f11)) from (show loopsOf (bodyOf Tryz.f11) = [nthLoop Tryz.f11 0] by kernel_rfl) ▸ (loopsOk_put (key := 3) (by kernel_rfl) (l0.ok K) noLoops_ok (by kernel_rfl))) (lb rfl) Tryz.func11 (by kernel_rfl) fun x => by
  rw [withCv_def]
  unfold F f
  try simp only [el]
  kernel_rfl
noncomputable def e (K : Nat) : En M := ⟨11, sig, _, F K, cv, by rfl, Tryz.f11, Tryz.func11, by kernel_rfl, rfl, rets K⟩
end ir_Copy_own
namespace ir_Sets
noncomputable def sig : Sig := ⟨(.agg (.cons (.ty yI) (.cons (.ty yI) (.cons (.ty yI) (.cons (.ty yI) (.cons (.ty yI) (.ty (.slice yI)))))))), [], (.cons (.ty yI) (.ty .bool)), []⟩
noncomputable def C {α : Type} (K : Nat) : CallsBy α := callsE (M := M) [ir_Insn_fields.e K]
noncomputable def f (K : Nat) (a0 : Int) (a1 : Int) : Option (Int × Bool) := (ir_Insn_fields.f K a0).bind fun t => bif !t.1 then some ((0 : Int), false) else some (a1, true)
noncomputable def F (K : Nat) : sig.In → Option (Int × Bool) := fun x => f K x.1.1 x.1.2.1
noncomputable def cv : sig.In → (Int × Bool) → sig.Ou := fun x r => ((r.1, r.2), ())
theorem rets (K : Nat) : ∀ x y, withCv (F K) cv x = some y → Rets M 107 sig x y := runF_retsS (C := (C K)) (LP := noLoops) (RF := noRefit) (CP := noCuts) callsE_ok mxd noRefit_ok noCuts_ok (noL (by kernel_rfl)) (lb rfl) Tryz.func107 (by kernel_rfl) fun x => by
  rw [withCv_def]
  unfold F f
  try simp only [el]
  kernel_rfl
noncomputable def e (K : Nat) : En M := ⟨107, sig, _, F K, cv, by rfl, Tryz.f107, Tryz.func107, by kernel_rfl, rfl, rets K⟩
end ir_Sets
namespace vm_ready
noncomputable def sig : Sig := ⟨(.agg (.cons (.own 0) (.cons (.ty (.slice yFunc)) (.ty (.slice yImport))))), [.list 2 yI []], (.ty (.ptr yprogram)), [.list 2 yI []]⟩
noncomputable def C {α : Type} (K : Nat) : CallsBy α := callsE (M := M) [ir_Sets.e K]
noncomputable def RF : RefitBy := (rfPut 1 95 21 ⟨[3, 4, 7, 10, 20, 21, 22, 41, 42, 43], (.cons (.ptr 1 0) (.cons (.ty yI) (.cons (.own 2) (.cons (.ptr 3 0) (.cons (.ty (.slice yFunc)) (.cons (.ty yI) (.cons (.ty yI) (.cons (.ty (.slice yBlock)) (.cons (.ty yI) (.ty yI)))))))))), [.list 2 yI [], .cells 140 0 (.cons (.ty (.slice yFunc)) (.cons (.own 4) (.own 5))), .list 136 ysited [], .cells 136 0 (.cons (.ty (.slice yInsn)) (.cons (.ty (.slice yI)) (.cons (.ty yI) (.cons (.ty yI) (.cons (.ty yI) (.ty yI)))))), .list 137 (.slice ysited) [], .list 3 yI []]⟩ noRefit)
noncomputable def l2.h : SSh := ⟨[3, 4, 7, 10, 20, 21, 22, 41, 42, 43, 57, 58, 59], (.cons (.ptr 1 0) (.cons (.ty yI) (.cons (.own 2) (.cons (.ptr 3 0) (.cons (.ty (.slice yFunc)) (.cons (.ty yI) (.cons (.ty yI) (.cons (.ty (.slice yBlock)) (.cons (.ty yI) (.cons (.ty yI) (.cons (.ty (.slice yInsn)) (.cons (.ty yI) (.ty yI))))))))))))), [.list 2 yI [], .cells 140 0 (.cons (.ty (.slice yFunc)) (.cons (.own 4) (.own 5))), .list 136 ysited [], .cells 136 0 (.cons (.ty (.slice yInsn)) (.cons (.own 6) (.cons (.ty yI) (.cons (.ty yI) (.cons (.ty yI) (.ty yI)))))), .list 137 (.slice ysited) [], .list 3 yI [], .list 3 yI []]⟩
noncomputable def l2.x : SSh := ⟨[3, 4, 7, 10, 20, 21, 22, 41, 42, 43], (.cons (.ptr 1 0) (.cons (.ty yI) (.cons (.own 2) (.cons (.ptr 3 0) (.cons (.ty (.slice yFunc)) (.cons (.ty yI) (.cons (.ty yI) (.cons (.ty (.slice yBlock)) (.cons (.ty yI) (.ty yI)))))))))), [.list 2 yI [], .cells 140 0 (.cons (.ty (.slice yFunc)) (.cons (.own 4) (.own 5))), .list 136 ysited [], .cells 136 0 (.cons (.ty (.slice yInsn)) (.cons (.own 6) (.cons (.ty yI) (.cons (.ty yI) (.cons (.ty yI) (.ty yI)))))), .list 137 (.slice ysited) [], .list 3 yI [], .list 3 yI []]⟩
noncomputable def l2.cx : l2.h.I → (Int × List Int) → l2.x.I := fun x r => (((), (r.1, ((), ((), (x.1.2.2.2.2.1, (x.1.2.2.2.2.2.1, (x.1.2.2.2.2.2.2.1, (x.1.2.2.2.2.2.2.2.1, (x.1.2.2.2.2.2.2.2.2.1, x.1.2.2.2.2.2.2.2.2.2.1))))))))), (x.2.1, ((x.2.2.1.1, ((), ())), (x.2.2.2.1, ((x.2.2.2.2.1.1, ((), (x.2.2.2.2.1.2.2.1, (x.2.2.2.2.1.2.2.2.1, (x.2.2.2.2.1.2.2.2.2.1, x.2.2.2.2.1.2.2.2.2.2))))), (x.2.2.2.2.2.1, (x.2.2.2.2.2.2.1, (r.2, ()))))))))
noncomputable def l2.f (K : Nat) : Nat → Int → List LInsn → Int → Int → List Int → Option (Int × List Int)
  | 0, _, _, _, _, _ => none
  | k + 1, a0, a7, a8, a9, a20 => bif decide (a9 < a8) then bif decide ((0 : Int) ≤ a9) && true then a7[a9.toNat]?.bind fun t => (ir_Sets.f K t.1 t.2.1).bind fun t => bif t.2 then bif decide ((0 : Int) ≤ a9) then bif a9.toNat.blt a20.length then a20[a9.toNat]?.bind fun t => l2.f K k (IntKind.i64.wrap (a0 + (1 : Int))) a7 a8 (IntKind.i64.wrap (a9 + (1 : Int))) (a20.set a9.toNat a0) else none else none else l2.f K k a0 a7 a8 (IntKind.i64.wrap (a9 + (1 : Int))) a20 else none else some (a0, a20)
noncomputable def l2.F (K : Nat) (k : Nat) : l2.h.I → Option (Int × List Int) := fun x => l2.f K k x.1.2.1 x.1.2.2.2.2.2.2.2.2.2.2.1 x.1.2.2.2.2.2.2.2.2.2.2.2.1 x.1.2.2.2.2.2.2.2.2.2.2.2.2 x.2.2.2.2.2.2.2.1
noncomputable def l2.lp {α : Type} (K : Nat) : St → Kn α → Option α := lpX 1 95 4 l2.h l2.x (l2.F K K) l2.cx
theorem l2.ok {α : Type} (K : Nat) : LoopOk (α := α) M 1 (nthLoop Tryz.f54 2) (l2.lp K) := lpX_okS (C := (C K)) (LP := noLoops) (RF := RF) (CP := noCuts) (L := 20) callsE_ok mxd (show RefitOk M 1 RF from (rfPut_ok (lb rfl) noRefit_ok)) noCuts_ok (noL (by kernel_rfl)) (lb rfl) (lb rfl) (fun x => rfl) fun k x => by
  rw [withCv_def]
  unfold l2.F
  rw [l2.f]
  try simp only [el]
  kernel_rfl
noncomputable def l1.h : SSh := ⟨[3, 4, 7, 20, 21, 22, 41, 42, 43], (.cons (.ptr 1 0) (.cons (.ty yI) (.cons (.own 2) (.cons (.ty (.slice yFunc)) (.cons (.ty yI) (.cons (.ty yI) (.cons (.ty (.slice yBlock)) (.cons (.ty yI) (.ty yI))))))))), [.list 2 yI [], .cells 140 0 (.cons (.ty (.slice yFunc)) (.cons (.own 3) (.own 4))), .list 136 ysited [], .list 137 (.slice ysited) [], .list 3 yI []]⟩
noncomputable def l1.x : SSh := ⟨[3, 4, 7, 20, 21, 22], (.cons (.ptr 1 0) (.cons (.ty yI) (.cons (.own 2) (.cons (.ty (.slice yFunc)) (.cons (.ty yI) (.ty yI)))))), [.list 2 yI [], .cells 140 0 (.cons (.ty (.slice yFunc)) (.cons (.own 3) (.own 4))), .list 136 ysited [], .list 137 (.slice ysited) [], .list 3 yI []]⟩
noncomputable def l1.cx : l1.h.I → (Int × List Lsited) → l1.x.I := fun x r => (((), (r.1, ((), (x.1.2.2.2.1, (x.1.2.2.2.2.1, x.1.2.2.2.2.2.1))))), (x.2.1, ((x.2.2.1.1, ((), ())), (r.2, (x.2.2.2.2.1, (x.2.2.2.2.2.1, ()))))))
noncomputable def l1.f (K : Nat) : Nat → Int → List LBlock → Int → Int → List Lsited → Option (Int × List Lsited)
  | 0, _, _, _, _, _ => none
  | k + 1, a0, a4, a5, a6, a9 => bif decide (a6 < a5) then bif decide ((0 : Int) ≤ a6) && true then a4[a6.toNat]?.bind fun t => bif decide ((↑(List.length t.1) : Int) ≤ (100000 : Int)) && (↑(List.length t.1) : Int) == (↑(List.length t.1) : Int) && true && true && true then (l2.f K K a0 t.1 (↑(List.length t.1) : Int) (0 : Int) (List.replicate (↑(List.length t.1) : Int).toNat (0 : Int))).bind fun t_1 => bif (a9.length + [(t.1, t_1.2, t.2.1, t.2.2.1, t.2.2.2.1, t.2.2.2.2)].length).ble (100000 : Nat) then l1.f K k t_1.1 a4 a5 (IntKind.i64.wrap (a6 + (1 : Int))) (a9 ++ [(t.1, t_1.2, t.2.1, t.2.2.1, t.2.2.2.1, t.2.2.2.2)]) else none else none else none else some (a0, a9)
noncomputable def l1.F (K : Nat) (k : Nat) : l1.h.I → Option (Int × List Lsited) := fun x => l1.f K k x.1.2.1 x.1.2.2.2.2.2.2.1 x.1.2.2.2.2.2.2.2.1 x.1.2.2.2.2.2.2.2.2 x.2.2.2.1
noncomputable def l1.lp {α : Type} (K : Nat) : St → Kn α → Option α := lpX 1 95 2 l1.h l1.x (l1.F K K) l1.cx
theorem l1.ok {α : Type} (K : Nat) : LoopOk (α := α) M 1 (nthLoop Tryz.f54 1) (l1.lp K) := lpX_okS (C := (C K)) (LP := (lpPut 14 (l2.lp K) noLoops)) (RF := RF) (CP := noCuts) (L := 20) callsE_ok mxd (show RefitOk M 1 RF from (rfPut_ok (lb rfl) noRefit_ok)) noCuts_ok (show LoopsOk M 1 (lpPut 14 (l2.lp K) noLoops) (loopsOf (nthLoop Tryz.f54 1)) from (show loopsOf (nthLoop Tryz.f54 1) = [nthLoop Tryz.f54 2] by kernel_rfl) ▸ (loopsOk_put (key := 14) (by kernel_rfl) (l2.ok K) noLoops_ok (by kernel_rfl))) (lb rfl) (lb rfl) (fun x => rfl) fun k x => by
  rw [withCv_def]
  unfold l1.F
  rw [l1.f]
  try simp only [el]
  kernel_rfl
noncomputable def l0.h : SSh := ⟨[3, 4, 20, 21, 22], (.cons (.ptr 1 0) (.cons (.ty yI) (.cons (.ty (.slice yFunc)) (.cons (.ty yI) (.ty yI))))), [.list 2 yI [], .cells 140 0 (.cons (.ty (.slice yFunc)) (.cons (.own 2) (.own 3))), .list 137 (.slice ysited) [], .list 3 yI []]⟩
noncomputable def l0.x : SSh := ⟨[3], (.ptr 1 0), [.list 2 yI [], .cells 140 0 (.cons (.ty (.slice yFunc)) (.cons (.own 2) (.own 3))), .list 137 (.slice ysited) [], .list 3 yI []]⟩
noncomputable def l0.cx : l0.h.I → (List (List Lsited) × List Int) → l0.x.I := fun x r => ((), (x.2.1, ((x.2.2.1.1, ((), ())), (r.1, (r.2, ())))))
noncomputable def l0.f (K : Nat) : Nat → Int → List LFunc → Int → Int → List (List Lsited) → List Int → Option (List (List Lsited) × List Int)
  | 0, _, _, _, _, _, _ => none
  | k + 1, a0, a1, a2, a3, a6, a7 => bif decide (a3 < a2) then bif decide ((0 : Int) ≤ a3) && true then a1[a3.toNat]?.bind fun t => bif (a7.length + [a0].length).ble (100000 : Nat) then (l1.f K K (IntKind.i64.wrap (a0 + t.2.2.1)) t.2.2.2 (↑(List.length t.2.2.2) : Int) (0 : Int) []).bind fun t => bif (a6.length + [t.2].length).ble (100000 : Nat) then l0.f K k t.1 a1 a2 (IntKind.i64.wrap (a3 + (1 : Int))) (a6 ++ [t.2]) (a7 ++ [a0]) else none else none else none else some (a6, a7)
noncomputable def l0.F (K : Nat) (k : Nat) : l0.h.I → Option (List (List Lsited) × List Int) := fun x => l0.f K k x.1.2.1 x.1.2.2.1 x.1.2.2.2.1 x.1.2.2.2.2 x.2.2.2.1 x.2.2.2.2.1
noncomputable def l0.lp {α : Type} (K : Nat) : St → Kn α → Option α := lpX 1 95 0 l0.h l0.x (l0.F K K) l0.cx
theorem l0.ok {α : Type} (K : Nat) : LoopOk (α := α) M 1 (nthLoop Tryz.f54 0) (l0.lp K) := lpX_okS (C := (C K)) (LP := (lpPut 10 (l1.lp K) (lpPut 14 (l2.lp K) noLoops))) (RF := RF) (CP := noCuts) (L := 20) callsE_ok mxd (show RefitOk M 1 RF from (rfPut_ok (lb rfl) noRefit_ok)) noCuts_ok (show LoopsOk M 1 (lpPut 10 (l1.lp K) (lpPut 14 (l2.lp K) noLoops)) (loopsOf (nthLoop Tryz.f54 0)) from (show loopsOf (nthLoop Tryz.f54 0) = [nthLoop Tryz.f54 1, nthLoop Tryz.f54 2] by kernel_rfl) ▸ (loopsOk_put (key := 10) (by kernel_rfl) (l1.ok K) (loopsOk_put (key := 14) (by kernel_rfl) (l2.ok K) noLoops_ok (by kernel_rfl)) (by kernel_rfl))) (lb rfl) (lb rfl) (fun x => rfl) fun k x => by
  rw [withCv_def]
  unfold l0.F
  rw [l0.f]
  try simp only [el]
  kernel_rfl
noncomputable def f (K : Nat) (a0 : List LFunc) : Option (Option Lprogram) := (l0.f K K (0 : Int) a0 (↑a0.length : Int) (0 : Int) [] []).bind fun t => some (some (a0, t.1, t.2))
noncomputable def F (K : Nat) : sig.In → Option (Option Lprogram) := fun x => f K x.1.2.1
noncomputable def cv : sig.In → (Option Lprogram) → sig.Ou := fun x r => (r, (x.2.1, ()))
theorem rets (K : Nat) : ∀ x y, withCv (F K) cv x = some y → Rets M 54 sig x y := runF_retsS (C := (C K)) (LP := (lpPut 4 (l0.lp K) (lpPut 10 (l1.lp K) (lpPut 14 (l2.lp K) noLoops)))) (RF := RF) (CP := noCuts) callsE_ok mxd (show RefitOk M 1 RF from (rfPut_ok (lb rfl) noRefit_ok)) noCuts_ok (show LoopsOk M 1 (lpPut 4 (l0.lp K) (lpPut 10 (l1.lp K) (lpPut 14 (l2.lp K) noLoops))) (loopsOf (bodyOf Tryz.f54)) from (show loopsOf (bodyOf Tryz.f54) = [nthLoop Tryz.f54 0, nthLoop Tryz.f54 1, nthLoop Tryz.f54 2] by kernel_rfl) ▸ (loopsOk_put (key := 4) (by kernel_rfl) (l0.ok K) (loopsOk_put (key := 10) (by kernel_rfl) (l1.ok K) (loopsOk_put (key := 14) (by kernel_rfl) (l2.ok K) noLoops_ok (by kernel_rfl)) (by kernel_rfl)) (by kernel_rfl))) (lb rfl) Tryz.func54 (by kernel_rfl) fun x => by
  rw [withCv_def]
  unfold F f
  try simp only [el]
  kernel_rfl
noncomputable def e (K : Nat) : En M := ⟨54, sig, _, F K, cv, by rfl, Tryz.f54, Tryz.func54, by kernel_rfl, rfl, rets K⟩
end vm_ready
namespace vm_program_frame
noncomputable def sig : Sig := ⟨(.cons (.ty (.ptr yprogram)) (.cons (.ty yI) (.ty (.slice yI)))), [], (.agg (.cons (.ty yI) (.cons (.ty yI) (.cons (.ty yI) (.cons (.own 0) (.own 1)))))), [.list 2 yI [], .list 3 yI []]⟩
noncomputable def C {α : Type} (K : Nat) : CallsBy α := callsE (M := M) []
noncomputable def l0.h : SSh := ⟨[0, 1, 6, 7, 26, 27], (.cons (.ty (.ptr yprogram)) (.cons (.ty yI) (.cons (.ptr 0 0) (.cons (.ptr 1 0) (.cons (.ty yI) (.ty yI)))))), [.cells 86 0 (.cons (.ty yI) (.cons (.ty yI) (.cons (.ty yI) (.cons (.own 2) (.own 3))))), .cells 86 0 (.cons (.ty yI) (.cons (.ty yI) (.cons (.ty yI) (.cons (.own 4) (.own 5))))), .list 2 yI [], .list 3 yI [], .list 2 yI [], .list 3 yI []]⟩
noncomputable def l0.x : SSh := ⟨[6, 7], (.cons (.ptr 0 0) (.ptr 1 0)), [.cells 86 0 (.cons (.ty yI) (.cons (.ty yI) (.cons (.ty yI) (.cons (.own 2) (.own 3))))), .cells 86 0 (.cons (.ty yI) (.cons (.ty yI) (.cons (.ty yI) (.cons (.own 4) (.own 5))))), .list 2 yI [], .list 3 yI [], .list 2 yI [], .list 3 yI []]⟩
noncomputable def l0.cx : l0.h.I → (List Int) → l0.x.I := fun x r => (((), ()), ((x.2.1.1, (x.2.1.2.1, (x.2.1.2.2.1, ((), ())))), ((x.2.2.1.1, (x.2.2.1.2.1, (x.2.2.1.2.2.1, ((), ())))), (x.2.2.2.1, (x.2.2.2.2.1, (x.2.2.2.2.2.1, (r, ())))))))
noncomputable def l0.f (K : Nat) : Nat → Option Lprogram → Int → Int → Int → List Int → Option (List Int)
  | 0, _, _, _, _, _ => none
  | k + 1, a0, a1, a2, a3, a13 => bif decide (a3 < a2) then a0.bind fun t => bif decide ((0 : Int) ≤ a1) && true then t.2.2[a1.toNat]?.bind fun t => bif (a13.length + [IntKind.i64.wrap (t + a3)].length).ble (100000 : Nat) then l0.f K k a0 a1 a2 (IntKind.i64.wrap (a3 + (1 : Int))) (a13 ++ [IntKind.i64.wrap (t + a3)]) else none else none else some a13
noncomputable def l0.F (K : Nat) (k : Nat) : l0.h.I → Option (List Int) := fun x => l0.f K k x.1.1 x.1.2.1 x.1.2.2.2.2.1 x.1.2.2.2.2.2 x.2.2.2.2.2.2.1
noncomputable def l0.lp {α : Type} (K : Nat) : St → Kn α → Option α := lpX 0 46 0 l0.h l0.x (l0.F K K) l0.cx
theorem l0.ok {α : Type} (K : Nat) : LoopOk (α := α) M 0 (nthLoop Tryz.f55 0) (l0.lp K) := lpX_okS (C := (C K)) (LP := noLoops) (RF := noRefit) (CP := noCuts) (L := 20) callsE_ok mxd noRefit_ok noCuts_ok (noL (by kernel_rfl)) (lb rfl) (lb rfl) (fun x => rfl) fun k x => by
  rw [withCv_def]
  unfold l0.F
  rw [l0.f]
  try simp only [el]
  kernel_rfl
noncomputable def f (K : Nat) (a0 : Option Lprogram) (a1 : Int) (a2 : List Int) : Option (Int × Int × List Int × List Int) := a0.bind fun t => bif decide ((0 : Int) ≤ a1) && true then t.1[a1.toNat]?.bind fun t => bif decide ((0 : Int) ≤ t.2.2.1) && decide (t.2.2.1 ≤ (100000 : Int)) && t.2.2.1 == t.2.2.1 && true && true && true then (l0.f K K a0 a1 (↑(List.take (List.replicate (Int.toNat t.2.2.1) (0 : Int)).length a2 ++ List.drop a2.length (List.replicate (Int.toNat t.2.2.1) (0 : Int))).length : Int) (0 : Int) []).bind fun t_1 => some ((0 : Int), (0 : Int), List.take (List.replicate (Int.toNat t.2.2.1) (0 : Int)).length a2 ++ List.drop a2.length (List.replicate (Int.toNat t.2.2.1) (0 : Int)), t_1) else none else none
noncomputable def F (K : Nat) : sig.In → Option (Int × Int × List Int × List Int) := fun x => f K x.1.1 x.1.2.1 x.1.2.2
noncomputable def cv : sig.In → (Int × Int × List Int × List Int) → sig.Ou := fun x r => ((x.1.2.1, (r.1, (r.2.1, ((), ())))), (r.2.2.1, (r.2.2.2, ())))
theorem rets (K : Nat) : ∀ x y, withCv (F K) cv x = some y → Rets M 55 sig x y := runF_retsS (C := (C K)) (LP := (lpPut 4 (l0.lp K) noLoops)) (RF := noRefit) (CP := noCuts) callsE_ok mxd noRefit_ok noCuts_ok (show LoopsOk M 0 (lpPut 4 (l0.lp K) noLoops) (loopsOf (bodyOf Tryz.f55)) from (show loopsOf (bodyOf Tryz.f55) = [nthLoop Tryz.f55 0] by kernel_rfl) ▸ (loopsOk_put (key := 4) (by kernel_rfl) (l0.ok K) noLoops_ok (by kernel_rfl))) (lb rfl) Tryz.func55 (by kernel_rfl) fun x => by
  rw [withCv_def]
  unfold F f
  try simp only [el]
  kernel_rfl
noncomputable def e (K : Nat) : En M := ⟨55, sig, _, F K, cv, by rfl, Tryz.f55, Tryz.func55, by kernel_rfl, rfl, rets K⟩
end vm_program_frame
namespace vm_Start
noncomputable def sig : Sig := ⟨(.cons (.agg (.cons (.ty (.slice yI)) (.cons (.ty (.slice yFunc)) (.ty (.slice yImport))))) (.cons (.ty yI) (.cons (.ty (.slice yI)) (.ty (.slice yI))))), [], (.cons (.ptr 0 0) (.ty .err)), [.cells 132 0 (.cons (.ty (.ptr yprogram)) (.cons (.own 1) (.cons (.ty (.slice yI)) (.cons (.own 2) (.cons (.own 3) (.cons (.ty yI) (.ty yI))))))), .list 2 yI [], .list 2 yI [], .list 86 (.pair yI (.pair yI (.pair yI (.pair (.own 0) (.own 1))))) [4, 5], .many 2 yI, .many 3 yI]⟩
noncomputable def C {α : Type} (K : Nat) : CallsBy α := adoptC 55 [(0, 1), (1, 2)] (callsE (M := M) [ir_Check.e K, ir_Copy_own.e K, vm_ready.e K, slices_Clone_int64_int64.e K, vm_program_frame.e K])
noncomputable def RF : RefitBy := (rfPut 0 62 10 ⟨[1, 2, 3, 4], (.cons (.ty yI) (.cons (.ty (.slice yI)) (.cons (.ty (.slice yI)) (.ptr 0 0)))), [.cells 35 0 (.cons (.ty (.slice yI)) (.cons (.ty (.slice yFunc)) (.ty (.slice yImport)))), .void 2 yI, .void 3 yI]⟩ noRefit)
noncomputable def CP {α : Type} (K : Nat) : CutBy α := (cpPut 6 (rpCut M bindC [.bool] [24] (C K) (eqBy M.P)) noCuts)
theorem CP_ok {α : Type} (K : Nat) : CutsOk (α := α) M 0 (CP K) := (cpPut_ok (rpCut_ok (adoptC_ok callsE_ok) (eqBy_ok _) mxd) noCuts_ok)
noncomputable def f (K : Nat) (a0 : List Int) (a1 : List LFunc) (a2 : List LImport) (a3 : Int) (a4 : List Int) (a5 : List Int) : Option (Err × Option Lprogram × List Int × Int × Int × List Int × List Int × (List (Int × Int × Int × Nat × Nat)) × List (List Int) × List (List Int)) := (ir_Check.f K a0 a1 a2).bind fun t => bif bif true then !t.isNil else t.isNil then none else bif decide ((↑a2.length : Int) > (0 : Int)) then none else bindC (bif decide (a3 < (0 : Int)) then some true else some (decide (a3 ≥ (↑a1.length : Int)))) fun t => bif t then none else bif decide ((0 : Int) ≤ a3) && true then a1[a3.toNat]?.bind fun t => bif (↑a4.length : Int) != t.2.1 then none else (ir_Copy_own.f K a0 a1 a2).bind fun t => (vm_ready.f K t.2.1).bind fun t_1 => (slices_Clone_int64_int64.f K a5).bind fun t_2 => (vm_program_frame.f K t_1 a3 a4).bind fun t_3 => some (Err.nil, t_1, t_2, (0 : Int), (0 : Int), t.1, [], [(a3, t_3.1, t_3.2.1, (0 : Nat), (0 : Nat))], [] ++ [t_3.2.2.1], [] ++ [t_3.2.2.2]) else none
noncomputable def F (K : Nat) : sig.In → Option (Err × Option Lprogram × List Int × Int × Int × List Int × List Int × (List (Int × Int × Int × Nat × Nat)) × List (List Int) × List (List Int)) := fun x => f K x.1.1.1 x.1.1.2.1 x.1.1.2.2 x.1.2.1 x.1.2.2.1 x.1.2.2.2
noncomputable def cv : sig.In → (Err × Option Lprogram × List Int × Int × Int × List Int × List Int × (List (Int × Int × Int × Nat × Nat)) × List (List Int) × List (List Int)) → sig.Ou := fun x r => (((), r.1), ((r.2.1, ((), (r.2.2.1, ((), ((), (r.2.2.2.1, r.2.2.2.2.1)))))), (r.2.2.2.2.2.1, (r.2.2.2.2.2.2.1, (r.2.2.2.2.2.2.2.1, (r.2.2.2.2.2.2.2.2.1, (r.2.2.2.2.2.2.2.2.2, ())))))))
theorem rets (K : Nat) : ∀ x y, withCv (F K) cv x = some y → Rets M 13 sig x y := runF_retsS (C := (C K)) (LP := noLoops) (RF := RF) (CP := (CP K)) (adoptC_ok callsE_ok) mxd (show RefitOk M 0 RF from (rfPut_ok (lb rfl) noRefit_ok)) (CP_ok K) (noL (by kernel_rfl)) (lb rfl) Tryz.func13 (by kernel_rfl) fun x => by
  rw [withCv_def]
  unfold F f
  try simp only [el]
  kernel_rfl
noncomputable def e (K : Nat) : En M := ⟨13, sig, _, F K, cv, by rfl, Tryz.f13, Tryz.func13, by kernel_rfl, rfl, rets K⟩
end vm_Start
namespace vm_Machine_inner
noncomputable def sig : Sig := ⟨(.ptr 0 0), [.cells 132 0 (.cons (.ty (.ptr yprogram)) (.cons (.own 1) (.cons (.ty (.slice yI)) (.cons (.own 2) (.cons (.own 3) (.cons (.ty yI) (.ty yI))))))), .list 2 yI [], .list 2 yI [], .list 86 (.pair yI (.pair yI (.pair yI (.pair (.own 0) (.own 1))))) [4, 5], .many 2 yI, .many 3 yI], (.ptrI 3 0), [.cells 132 0 (.cons (.ty (.ptr yprogram)) (.cons (.own 1) (.cons (.ty (.slice yI)) (.cons (.own 2) (.cons (.own 3) (.cons (.ty yI) (.ty yI))))))), .list 2 yI [], .list 2 yI [], .list 86 (.pair yI (.pair yI (.pair yI (.pair (.own 0) (.own 1))))) [4, 5], .many 2 yI, .many 3 yI]⟩
noncomputable def C {α : Type} (K : Nat) : CallsBy α := callsE (M := M) []
noncomputable def f (K : Nat) (a6 : List (Int × Int × Int × Nat × Nat)) : Option (Nat) := bif decide ((0 : Int) ≤ IntKind.i64.wrap ((↑a6.length : Int) - (1 : Int))) then bif (IntKind.i64.wrap ((↑a6.length : Int) - (1 : Int))).toNat.blt a6.length then some (IntKind.i64.wrap ((↑a6.length : Int) - (1 : Int))).toNat else none else none
noncomputable def F (K : Nat) : sig.In → Option (Nat) := fun x => f K x.2.2.2.2.1
noncomputable def cv : sig.In → Nat → sig.Ou := fun x r => (r, ((x.2.1.1, ((), (x.2.1.2.2.1, ((), ((), (x.2.1.2.2.2.2.2.1, x.2.1.2.2.2.2.2.2)))))), (x.2.2.1, (x.2.2.2.1, (x.2.2.2.2.1, (x.2.2.2.2.2.1, (x.2.2.2.2.2.2.1, ())))))))
theorem rets (K : Nat) : ∀ x y, withCv (F K) cv x = some y → Rets M 56 sig x y := runF_retsS (C := (C K)) (LP := noLoops) (RF := noRefit) (CP := noCuts) callsE_ok mxd noRefit_ok noCuts_ok (noL (by kernel_rfl)) (lb rfl) Tryz.func56 (by kernel_rfl) fun x => by
  rw [withCv_def]
  unfold F f
  try simp only [el]
  kernel_rfl
noncomputable def e (K : Nat) : En M := ⟨56, sig, _, F K, cv, by rfl, Tryz.f56, Tryz.func56, by kernel_rfl, rfl, rets K⟩
end vm_Machine_inner
namespace vm_Machine_set
noncomputable def sig : Sig := ⟨(.cons (.ptr 0 0) (.cons (.ptrI 3 0) (.cons (.ty yI) (.ty yI)))), [.cells 132 0 (.cons (.ty (.ptr yprogram)) (.cons (.own 1) (.cons (.ty (.slice yI)) (.cons (.own 2) (.cons (.own 3) (.cons (.ty yI) (.ty yI))))))), .list 2 yI [], .list 2 yI [], .list 86 (.pair yI (.pair yI (.pair yI (.pair (.own 0) (.own 1))))) [4, 5], .many 2 yI, .many 3 yI], .unit, [.cells 132 0 (.cons (.ty (.ptr yprogram)) (.cons (.own 1) (.cons (.ty (.slice yI)) (.cons (.own 2) (.cons (.own 3) (.cons (.ty yI) (.ty yI))))))), .list 2 yI [], .list 2 yI [], .list 86 (.pair yI (.pair yI (.pair yI (.pair (.own 0) (.own 1))))) [4, 5], .many 2 yI, .many 3 yI]⟩
noncomputable def C {α : Type} (K : Nat) : CallsBy α := callsE (M := M) []
noncomputable def f (K : Nat) (a0 : Nat) (a1 : Int) (a2 : Int) (a3 : Option Lprogram) (a9 : List (Int × Int × Int × Nat × Nat)) (a10 : List (List Int)) (a11 : List (List Int)) : Option ((List (Int × Int × Int × Nat × Nat)) × List (List Int) × List (List Int)) := a9[a0]?.bind fun t => a9[a0]?.bind fun t_1 => a3.bind fun t_2 => a9[a0]?.bind fun t_3 => bif decide ((0 : Int) ≤ t_3.1) && true then t_2.2.1[Int.toNat t_3.1]?.bind fun t_4 => a9[a0]?.bind fun t_5 => bif decide ((0 : Int) ≤ t_5.2.1) && true then t_4[Int.toNat t_5.2.1]?.bind fun t_6 => a9[a0]?.bind fun t_7 => bif decide ((0 : Int) ≤ t_7.2.2.1) && true then t_6.2.1[Int.toNat t_7.2.2.1]?.bind fun t_8 => bindC (a10[t.2.2.2.1]?.bind fun t => some t.length) fun t_9 => bif decide ((0 : Int) ≤ a1) then bif a1.toNat.blt t_9 then a10[t.2.2.2.1]?.bind fun t_10 => t_10[a1.toNat]?.bind fun t_11 => bindC (a11[t_1.2.2.2.2]?.bind fun t => some t.length) fun t_12 => bif decide ((0 : Int) ≤ a1) then bif a1.toNat.blt t_12 then a11[t_1.2.2.2.2]?.bind fun t_13 => t_13[a1.toNat]?.bind fun t_14 => a9[a0]?.bind fun t_15 => a9[a0]?.bind fun t_16 => some (a9.set a0 (t_16.1, t_16.2.1, IntKind.i64.wrap (t_15.2.2.1 + (1 : Int)), t_16.2.2.2.1, t_16.2.2.2.2), a10.set t.2.2.2.1 (t_10.set a1.toNat a2), a11.set t_1.2.2.2.2 (t_13.set a1.toNat t_8)) else none else none else none else none else none else none else none
noncomputable def F (K : Nat) : sig.In → Option ((List (Int × Int × Int × Nat × Nat)) × List (List Int) × List (List Int)) := fun x => f K x.1.2.1 x.1.2.2.1 x.1.2.2.2 x.2.1.1 x.2.2.2.2.1 x.2.2.2.2.2.1 x.2.2.2.2.2.2.1
noncomputable def cv : sig.In → ((List (Int × Int × Int × Nat × Nat)) × List (List Int) × List (List Int)) → sig.Ou := fun x r => ((), ((x.2.1.1, ((), (x.2.1.2.2.1, ((), ((), (x.2.1.2.2.2.2.2.1, x.2.1.2.2.2.2.2.2)))))), (x.2.2.1, (x.2.2.2.1, (r.1, (r.2.1, (r.2.2, ())))))))
theorem rets (K : Nat) : ∀ x y, withCv (F K) cv x = some y → Rets M 111 sig x y := runF_retsS (C := (C K)) (LP := noLoops) (RF := noRefit) (CP := noCuts) callsE_ok mxd noRefit_ok noCuts_ok (noL (by kernel_rfl)) (lb rfl) Tryz.func111 (by kernel_rfl) fun x => by
  rw [withCv_def]
  unfold F f
  try simp only [el]
  kernel_rfl
noncomputable def e (K : Nat) : En M := ⟨111, sig, _, F K, cv, by rfl, Tryz.f111, Tryz.func111, by kernel_rfl, rfl, rets K⟩
end vm_Machine_set
namespace vm_Machine_back
noncomputable def sig : Sig := ⟨(.cons (.ptr 0 0) (.ty yI)), [.cells 132 0 (.cons (.ty (.ptr yprogram)) (.cons (.own 1) (.cons (.ty (.slice yI)) (.cons (.own 2) (.cons (.own 3) (.cons (.ty yI) (.ty yI))))))), .list 2 yI [], .list 2 yI [], .list 86 (.pair yI (.pair yI (.pair yI (.pair (.own 0) (.own 1))))) [4, 5], .many 2 yI, .many 3 yI], .unit, [.cells 132 0 (.cons (.ty (.ptr yprogram)) (.cons (.own 1) (.cons (.ty (.slice yI)) (.cons (.own 2) (.cons (.own 6) (.cons (.ty yI) (.ty yI))))))), .list 2 yI [], .list 2 yI [], .dead, .many 2 yI, .many 3 yI, .list 86 (.pair yI (.pair yI (.pair yI (.pair (.own 0) (.own 1))))) [4, 5]]⟩
noncomputable def C {α : Type} (K : Nat) : CallsBy α := callsE (M := M) [vm_Machine_inner.e K, vm_Machine_set.e K]
noncomputable def f (K : Nat) (a0 : Int) (a1 : Option Lprogram) (a3 : Int) (a4 : Int) (a7 : List (Int × Int × Int × Nat × Nat)) (a8 : List (List Int)) (a9 : List (List Int)) : Option (Int × Int × List (List Int) × List (List Int) × (List (Int × Int × Int × Nat × Nat))) := bif decide ((↑(0 : Nat) : Int) ≤ IntKind.i64.wrap ((↑a7.length : Int) - (1 : Int))) && decide (IntKind.i64.wrap ((↑a7.length : Int) - (1 : Int)) ≤ (↑a7.length : Int)) then bif (↑((IntKind.i64.wrap ((↑a7.length : Int) - (1 : Int))).toNat - (0 : Nat)) : Int) == (0 : Int) then bif ((IntKind.i64.wrap ((↑a7.length : Int) - (1 : Int))).toNat - (0 : Nat)).ble a7.length then some ((1 : Int), a0, a8, a9, List.take ((IntKind.i64.wrap ((↑a7.length : Int) - (1 : Int))).toNat - (0 : Nat)) a7) else none else bif ((IntKind.i64.wrap ((↑a7.length : Int) - (1 : Int))).toNat - (0 : Nat)).ble a7.length then (vm_Machine_inner.f K (List.take ((IntKind.i64.wrap ((↑a7.length : Int) - (1 : Int))).toNat - (0 : Nat)) a7)).bind fun t => a1.bind fun t_1 => (List.take ((IntKind.i64.wrap ((↑a7.length : Int) - (1 : Int))).toNat - (0 : Nat)) a7)[t]?.bind fun t_2 => bif decide ((0 : Int) ≤ t_2.1) && true then t_1.2.1[Int.toNat t_2.1]?.bind fun t_3 => (List.take ((IntKind.i64.wrap ((↑a7.length : Int) - (1 : Int))).toNat - (0 : Nat)) a7)[t]?.bind fun t_4 => bif decide ((0 : Int) ≤ t_4.2.1) && true then t_3[Int.toNat t_4.2.1]?.bind fun t_5 => (List.take ((IntKind.i64.wrap ((↑a7.length : Int) - (1 : Int))).toNat - (0 : Nat)) a7)[t]?.bind fun t_6 => bif decide ((0 : Int) ≤ t_6.2.2.1) && true then t_5.1[Int.toNat t_6.2.2.1]?.bind fun t_7 => (vm_Machine_set.f K t t_7.2.1 a0 a1 (List.take ((IntKind.i64.wrap ((↑a7.length : Int) - (1 : Int))).toNat - (0 : Nat)) a7) a8 a9).bind fun t => some (a3, a4, t.2.1, t.2.2, t.1) else none else none else none else none else none
noncomputable def F (K : Nat) : sig.In → Option (Int × Int × List (List Int) × List (List Int) × (List (Int × Int × Int × Nat × Nat))) := fun x => f K x.1.2 x.2.1.1 x.2.1.2.2.2.2.2.1 x.2.1.2.2.2.2.2.2 x.2.2.2.2.1 x.2.2.2.2.2.1 x.2.2.2.2.2.2.1
noncomputable def cv : sig.In → (Int × Int × List (List Int) × List (List Int) × (List (Int × Int × Int × Nat × Nat))) → sig.Ou := fun x r => ((), ((x.2.1.1, ((), (x.2.1.2.2.1, ((), ((), (r.1, r.2.1)))))), (x.2.2.1, (x.2.2.2.1, ((), (r.2.2.1, (r.2.2.2.1, (r.2.2.2.2, ()))))))))
theorem rets (K : Nat) : ∀ x y, withCv (F K) cv x = some y → Rets M 108 sig x y := runF_retsS (C := (C K)) (LP := noLoops) (RF := noRefit) (CP := noCuts) callsE_ok mxd noRefit_ok noCuts_ok (noL (by kernel_rfl)) (lb rfl) Tryz.func108 (by kernel_rfl) fun x => by
  rw [withCv_def]
  unfold F f
  try simp only [el]
  kernel_rfl
noncomputable def e (K : Nat) : En M := ⟨108, sig, _, F K, cv, by rfl, Tryz.f108, Tryz.func108, by kernel_rfl, rfl, rets K⟩
end vm_Machine_back
namespace vm_Machine_end
noncomputable def sig : Sig := ⟨(.cons (.ptr 0 0) (.cons (.ptrI 3 0) (.agg (.cons (.ty yI) (.cons (.ty yI) (.cons (.ty yI) (.ty yI))))))), [.cells 132 0 (.cons (.ty (.ptr yprogram)) (.cons (.own 1) (.cons (.ty (.slice yI)) (.cons (.own 2) (.cons (.own 3) (.cons (.ty yI) (.ty yI))))))), .list 2 yI [], .list 2 yI [], .list 86 (.pair yI (.pair yI (.pair yI (.pair (.own 0) (.own 1))))) [4, 5], .many 2 yI, .many 3 yI], .unit, [.cells 132 0 (.cons (.ty (.ptr yprogram)) (.cons (.own 1) (.cons (.ty (.slice yI)) (.cons (.own 2) (.cons (.own 6) (.cons (.ty yI) (.ty yI))))))), .list 2 yI [], .list 2 yI [], .dead, .many 2 yI, .many 3 yI, .list 86 (.pair yI (.pair yI (.pair yI (.pair (.own 0) (.own 1))))) [4, 5]]⟩
noncomputable def C {α : Type} (K : Nat) : CallsBy α := callsE (M := M) [vm_Machine_back.e K]
noncomputable def CP {α : Type} (K : Nat) : CutBy α := (cpPut 4 (rpCut M bindC [.bool] [23] (C K) (eqBy M.P)) noCuts)
theorem CP_ok {α : Type} (K : Nat) : CutsOk (α := α) M 6 (CP K) := (cpPut_ok (rpCut_ok callsE_ok (eqBy_ok _) mxd) noCuts_ok)
noncomputable def f (K : Nat) (a0 : Nat) (a1 : Int) (a2 : Int) (a3 : Int) (a4 : Int) (a5 : Option Lprogram) (a7 : Int) (a8 : Int) (a11 : List (Int × Int × Int × Nat × Nat)) (a12 : List (List Int)) (a13 : List (List Int)) : Option (Int × Int × List (List Int) × List (List Int) × (List (Int × Int × Int × Nat × Nat))) := bif a1 == (3 : Int) then a11[a0]?.bind fun t => bindC (a12[t.2.2.2.1]?.bind fun t => some t.length) fun t_1 => bif decide ((0 : Int) ≤ a2) then bif a2.toNat.blt t_1 then a12[t.2.2.2.1]?.bind fun t => t[a2.toNat]?.bind fun t => vm_Machine_back.f K t a5 a7 a8 a11 a12 a13 else none else none else bindC (bif a1 == (2 : Int) then a11[a0]?.bind fun t => bindC (a12[t.2.2.2.1]?.bind fun t => some t.length) fun t_1 => bif decide ((0 : Int) ≤ a2) then bif a2.toNat.blt t_1 then a12[t.2.2.2.1]?.bind fun t => t[a2.toNat]?.bind fun t => some (t == (0 : Int)) else none else none else some false) fun t => bif t then a11[a0]?.bind fun t => (a11.set a0 (t.1, a4, t.2.2.1, t.2.2.2.1, t.2.2.2.2))[a0]?.bind fun t_1 => some (a7, a8, a12, a13, (a11.set a0 (t.1, a4, t.2.2.1, t.2.2.2.1, t.2.2.2.2)).set a0 (t_1.1, t_1.2.1, (0 : Int), t_1.2.2.2.1, t_1.2.2.2.2)) else a11[a0]?.bind fun t => (a11.set a0 (t.1, a3, t.2.2.1, t.2.2.2.1, t.2.2.2.2))[a0]?.bind fun t_1 => some (a7, a8, a12, a13, (a11.set a0 (t.1, a3, t.2.2.1, t.2.2.2.1, t.2.2.2.2)).set a0 (t_1.1, t_1.2.1, (0 : Int), t_1.2.2.2.1, t_1.2.2.2.2))
noncomputable def F (K : Nat) : sig.In → Option (Int × Int × List (List Int) × List (List Int) × (List (Int × Int × Int × Nat × Nat))) := fun x => f K x.1.2.1 x.1.2.2.1 x.1.2.2.2.1 x.1.2.2.2.2.1 x.1.2.2.2.2.2 x.2.1.1 x.2.1.2.2.2.2.2.1 x.2.1.2.2.2.2.2.2 x.2.2.2.2.1 x.2.2.2.2.2.1 x.2.2.2.2.2.2.1
noncomputable def cv : sig.In → (Int × Int × List (List Int) × List (List Int) × (List (Int × Int × Int × Nat × Nat))) → sig.Ou := fun x r => ((), ((x.2.1.1, ((), (x.2.1.2.2.1, ((), ((), (r.1, r.2.1)))))), (x.2.2.1, (x.2.2.2.1, ((), (r.2.2.1, (r.2.2.2.1, (r.2.2.2.2, ()))))))))
theorem rets (K : Nat) : ∀ x y, withCv (F K) cv x = some y → Rets M 57 sig x y := runF_retsS (C := (C K)) (LP := noLoops) (RF := noRefit) (CP := (CP K)) callsE_ok mxd noRefit_ok (CP_ok K) (noL (by kernel_rfl)) (lb rfl) Tryz.func57 (by kernel_rfl) fun x => by
  rw [withCv_def]
  unfold F f
  try simp only [el]
  kernel_rfl
noncomputable def e (K : Nat) : En M := ⟨57, sig, _, F K, cv, by rfl, Tryz.f57, Tryz.func57, by kernel_rfl, rfl, rets K⟩
end vm_Machine_end
namespace vm_Machine_call
noncomputable def sig : Sig := ⟨(.cons (.ptr 0 0) (.cons (.ptrI 3 0) (.agg (.cons (.ty yI) (.cons (.ty yI) (.cons (.ty yI) (.cons (.ty yI) (.cons (.ty yI) (.ty (.slice yI)))))))))), [.cells 132 0 (.cons (.ty (.ptr yprogram)) (.cons (.own 1) (.cons (.ty (.slice yI)) (.cons (.own 2) (.cons (.own 3) (.cons (.ty yI) (.ty yI))))))), .list 2 yI [], .list 2 yI [], .list 86 (.pair yI (.pair yI (.pair yI (.pair (.own 0) (.own 1))))) [4, 5], .many 2 yI, .many 3 yI], (.ty .bool), [.cells 132 0 (.cons (.ty (.ptr yprogram)) (.cons (.own 1) (.cons (.ty (.slice yI)) (.cons (.own 2) (.cons (.own 6) (.cons (.ty yI) (.ty yI))))))), .list 2 yI [], .list 2 yI [], .dead, .many 2 yI, .many 3 yI, .list 86 (.pair yI (.pair yI (.pair yI (.pair (.own 0) (.own 1))))) [4, 5]]⟩
noncomputable def C {α : Type} (K : Nat) : CallsBy α := adoptC 55 [(0, 4), (1, 5)] (callsE (M := M) [vm_program_frame.e K])
noncomputable def l0.h : SSh := ⟨[0, 1, 5, 7, 17, 18, 19], (.cons (.ptr 0 0) (.cons (.ptrI 3 0) (.cons (.ptr 6 0) (.cons (.own 7) (.cons (.ty (.slice yI)) (.cons (.ty yI) (.ty yI))))))), [.cells 132 0 (.cons (.ty (.ptr yprogram)) (.cons (.own 1) (.cons (.ty (.slice yI)) (.cons (.own 2) (.cons (.own 3) (.cons (.ty yI) (.ty yI))))))), .list 2 yI [], .list 2 yI [], .list 86 (.pair yI (.pair yI (.pair yI (.pair (.own 0) (.own 1))))) [4, 5], .many 2 yI, .many 3 yI, .cells 144 0 (.cons (.ty yI) (.cons (.ty yI) (.cons (.ty yI) (.cons (.ty yI) (.cons (.ty yI) (.ty (.slice yI))))))), .list 2 yI []]⟩
noncomputable def l0.x : SSh := ⟨[0, 5, 7], (.cons (.ptr 0 0) (.cons (.ptr 6 0) (.own 7))), [.cells 132 0 (.cons (.ty (.ptr yprogram)) (.cons (.own 1) (.cons (.ty (.slice yI)) (.cons (.own 2) (.cons (.own 3) (.cons (.ty yI) (.ty yI))))))), .list 2 yI [], .list 2 yI [], .list 86 (.pair yI (.pair yI (.pair yI (.pair (.own 0) (.own 1))))) [4, 5], .many 2 yI, .many 3 yI, .cells 144 0 (.cons (.ty yI) (.cons (.ty yI) (.cons (.ty yI) (.cons (.ty yI) (.cons (.ty yI) (.ty (.slice yI))))))), .list 2 yI []]⟩
noncomputable def l0.cx : l0.h.I → (List Int) → l0.x.I := fun x r => (((), ((), ())), ((x.2.1.1, ((), (x.2.1.2.2.1, ((), ((), (x.2.1.2.2.2.2.2.1, x.2.1.2.2.2.2.2.2)))))), (x.2.2.1, (x.2.2.2.1, (x.2.2.2.2.1, (x.2.2.2.2.2.1, (x.2.2.2.2.2.2.1, ((x.2.2.2.2.2.2.2.1.1, (x.2.2.2.2.2.2.2.1.2.1, (x.2.2.2.2.2.2.2.1.2.2.1, (x.2.2.2.2.2.2.2.1.2.2.2.1, (x.2.2.2.2.2.2.2.1.2.2.2.2.1, x.2.2.2.2.2.2.2.1.2.2.2.2.2))))), (r, ())))))))))
noncomputable def l0.f (K : Nat) : Nat → Nat → List Int → Int → Int → List (Int × Int × Int × Nat × Nat) → List (List Int) → List Int → Option (List Int)
  | 0, _, _, _, _, _, _, _ => none
  | k + 1, a0, a1, a2, a3, a10, a11, a19 => bif decide (a3 < a2) then bif decide ((0 : Int) ≤ a3) && true then a1[a3.toNat]?.bind fun t => a10[a0]?.bind fun t_1 => bindC (a11[t_1.2.2.2.1]?.bind fun t => some t.length) fun t_2 => bif decide ((0 : Int) ≤ t) then bif (Int.toNat t).blt t_2 then a11[t_1.2.2.2.1]?.bind fun t_3 => t_3[Int.toNat t]?.bind fun t => bif (a19.length + [t].length).ble (100000 : Nat) then l0.f K k a0 a1 a2 (IntKind.i64.wrap (a3 + (1 : Int))) a10 a11 (a19 ++ [t]) else none else none else none else none else some a19
noncomputable def l0.F (K : Nat) (k : Nat) : l0.h.I → Option (List Int) := fun x => l0.f K k x.1.2.1 x.1.2.2.2.2.1 x.1.2.2.2.2.2.1 x.1.2.2.2.2.2.2 x.2.2.2.2.1 x.2.2.2.2.2.1 x.2.2.2.2.2.2.2.2.1
noncomputable def l0.lp {α : Type} (K : Nat) : St → Kn α → Option α := lpX 6 51 0 l0.h l0.x (l0.F K K) l0.cx
theorem l0.ok {α : Type} (K : Nat) : LoopOk (α := α) M 6 (nthLoop Tryz.f109 0) (l0.lp K) := lpX_okS (C := (C K)) (LP := noLoops) (RF := noRefit) (CP := noCuts) (L := 20) (adoptC_ok callsE_ok) mxd noRefit_ok noCuts_ok (noL (by kernel_rfl)) (lb rfl) (lb rfl) (fun x => rfl) fun k x => by
  rw [withCv_def]
  unfold l0.F
  rw [l0.f]
  try simp only [el]
  kernel_rfl
noncomputable def f (K : Nat) (a0 : Nat) (a4 : Int) (a6 : List Int) (a7 : Option Lprogram) (a13 : List (Int × Int × Int × Nat × Nat)) (a14 : List (List Int)) (a15 : List (List Int)) : Option (Bool × List (List Int) × List (List Int) × (List (Int × Int × Int × Nat × Nat))) := bif (↑a13.length : Int) == (64 : Int) then some (false, a14, a15, a13) else (l0.f K K a0 a6 (↑a6.length : Int) (0 : Int) a13 a14 []).bind fun t => (vm_program_frame.f K a7 a4 t).bind fun t => bif (a13.length + [(a4, t.1, t.2.1, a14.length, a15.length)].length).ble (100000 : Nat) then some (true, a14 ++ [t.2.2.1], a15 ++ [t.2.2.2], a13 ++ [(a4, t.1, t.2.1, a14.length, a15.length)]) else none
noncomputable def F (K : Nat) : sig.In → Option (Bool × List (List Int) × List (List Int) × (List (Int × Int × Int × Nat × Nat))) := fun x => f K x.1.2.1 x.1.2.2.2.2.2.1 x.1.2.2.2.2.2.2.2 x.2.1.1 x.2.2.2.2.1 x.2.2.2.2.2.1 x.2.2.2.2.2.2.1
noncomputable def cv : sig.In → (Bool × List (List Int) × List (List Int) × (List (Int × Int × Int × Nat × Nat))) → sig.Ou := fun x r => (r.1, ((x.2.1.1, ((), (x.2.1.2.2.1, ((), ((), (x.2.1.2.2.2.2.2.1, x.2.1.2.2.2.2.2.2)))))), (x.2.2.1, (x.2.2.2.1, ((), (r.2.1, (r.2.2.1, (r.2.2.2, ()))))))))
theorem rets (K : Nat) : ∀ x y, withCv (F K) cv x = some y → Rets M 109 sig x y := runF_retsS (C := (C K)) (LP := (lpPut 5 (l0.lp K) noLoops)) (RF := noRefit) (CP := noCuts) (adoptC_ok callsE_ok) mxd noRefit_ok noCuts_ok (show LoopsOk M 6 (lpPut 5 (l0.lp K) noLoops) (loopsOf (bodyOf Tryz.f109)) from (show loopsOf (bodyOf Tryz.f109) = [nthLoop Tryz.f109 0] by kernel_rfl) ▸ (loopsOk_put (key := 5) (by kernel_rfl) (l0.ok K) noLoops_ok (by kernel_rfl))) (lb rfl) Tryz.func109 (by kernel_rfl) fun x => by
  rw [withCv_def]
  unfold F f
  try simp only [el]
  kernel_rfl
noncomputable def e (K : Nat) : En M := ⟨109, sig, _, F K, cv, by rfl, Tryz.f109, Tryz.func109, by kernel_rfl, rfl, rets K⟩
end vm_Machine_call
namespace vm_flag
noncomputable def sig : Sig := ⟨(.ty .bool), [], (.ty yI), []⟩
noncomputable def C {α : Type} (K : Nat) : CallsBy α := callsE (M := M) []
noncomputable def f (K : Nat) (a0 : Bool) : Option (Int) := bif a0 then some (1 : Int) else some (0 : Int)
noncomputable def F (K : Nat) : sig.In → Option (Int) := fun (x : (Bool × Unit)) => f K x.1
noncomputable def cv : sig.In → Int → sig.Ou := fun x r => (r, ())
theorem rets (K : Nat) : ∀ x y, withCv (F K) cv x = some y → Rets M 180 sig x y := runF_retsS (C := (C K)) (LP := noLoops) (RF := noRefit) (CP := noCuts) callsE_ok mxd noRefit_ok noCuts_ok (noL (by kernel_rfl)) (lb rfl) Tryz.func180 (by kernel_rfl) fun (x : (Bool × Unit)) => by
  refine Eq.trans ?_ withCv_def.symm
  unfold F f
  try simp only [el]
  kernel_rfl
noncomputable def e (K : Nat) : En M := ⟨180, sig, _, F K, cv, by rfl, Tryz.f180, Tryz.func180, by kernel_rfl, rfl, rets K⟩
end vm_flag
namespace vm_Arith
noncomputable def sig : Sig := ⟨(.cons (.ty yI) (.cons (.ty yI) (.ty yI))), [], (.cons (.ty yI) (.ty .bool)), []⟩
noncomputable def C {α : Type} (K : Nat) : CallsBy α := callsE (M := M) [vm_flag.e K]
noncomputable def f (K : Nat) (a0 : Int) (a1 : Int) (a2 : Int) : Option (Int × Bool) := bif a0 == (4 : Int) then some (IntKind.i64.wrap (a1 + a2), true) else bif a0 == (5 : Int) then some (IntKind.i64.wrap (a1 - a2), true) else bif a0 == (6 : Int) then some (IntKind.i64.wrap (a1 * a2), true) else bif a0 == (9 : Int) then some (IntKind.i64.wrap (↑(BitVec.ofInt (64 : Nat) a1 &&& BitVec.ofInt (64 : Nat) a2).toNat : Int), true) else bif a0 == (10 : Int) then some (IntKind.i64.wrap (↑(BitVec.ofInt (64 : Nat) a1 ^^^ BitVec.ofInt (64 : Nat) a2).toNat : Int), true) else bif a0 == (11 : Int) then (vm_flag.f K (decide (a1 < a2))).bind fun t => some (t, true) else bif a0 == (12 : Int) then (vm_flag.f K (a1 == a2)).bind fun t => some (t, true) else bif a0 == (7 : Int) then bif a2 == (0 : Int) then some ((0 : Int), false) else bif a0 == (7 : Int) then bif a2 == (0 : Int) then none else some (IntKind.i64.wrap (a1.tdiv a2), true) else bif a2 == (0 : Int) then none else some (a1.tmod a2, true) else bif a0 == (8 : Int) then bif a2 == (0 : Int) then some ((0 : Int), false) else bif a0 == (7 : Int) then bif a2 == (0 : Int) then none else some (IntKind.i64.wrap (a1.tdiv a2), true) else bif a2 == (0 : Int) then none else some (a1.tmod a2, true) else some ((0 : Int), false)
noncomputable def F (K : Nat) : sig.In → Option (Int × Bool) := fun x => f K x.1.1 x.1.2.1 x.1.2.2
noncomputable def cv : sig.In → (Int × Bool) → sig.Ou := fun x r => ((r.1, r.2), ())
theorem rets (K : Nat) : ∀ x y, withCv (F K) cv x = some y → Rets M 155 sig x y := runF_retsS (C := (C K)) (LP := noLoops) (RF := noRefit) (CP := noCuts) callsE_ok mxd noRefit_ok noCuts_ok (noL (by kernel_rfl)) (lb rfl) Tryz.func155 (by kernel_rfl) fun x => by
  rw [withCv_def]
  unfold F f
  try simp only [el]
  kernel_rfl
noncomputable def e (K : Nat) : En M := ⟨155, sig, _, F K, cv, by rfl, Tryz.f155, Tryz.func155, by kernel_rfl, rfl, rets K⟩
end vm_Arith
namespace vm_Machine_value
noncomputable def sig : Sig := ⟨(.cons (.ptr 0 0) (.cons (.ptrI 3 0) (.agg (.cons (.ty yI) (.cons (.ty yI) (.cons (.ty yI) (.cons (.ty yI) (.cons (.ty yI) (.ty (.slice yI)))))))))), [.cells 132 0 (.cons (.ty (.ptr yprogram)) (.cons (.own 1) (.cons (.ty (.slice yI)) (.cons (.own 2) (.cons (.own 3) (.cons (.ty yI) (.ty yI))))))), .list 2 yI [], .list 2 yI [], .list 86 (.pair yI (.pair yI (.pair yI (.pair (.own 0) (.own 1))))) [4, 5], .many 2 yI, .many 3 yI], (.cons (.ty yI) (.ty .bool)), [.cells 132 0 (.cons (.ty (.ptr yprogram)) (.cons (.own 1) (.cons (.ty (.slice yI)) (.cons (.own 2) (.cons (.own 3) (.cons (.ty yI) (.ty yI))))))), .list 2 yI [], .list 2 yI [], .list 86 (.pair yI (.pair yI (.pair yI (.pair (.own 0) (.own 1))))) [4, 5], .many 2 yI, .many 3 yI]⟩
noncomputable def C {α : Type} (K : Nat) : CallsBy α := callsE (M := M) [vm_Arith.e K]
noncomputable def f (K : Nat) (a0 : Nat) (a1 : Int) (a3 : Int) (a4 : Int) (a5 : Int) (a8 : List Int) (a11 : List Int) (a13 : List (Int × Int × Int × Nat × Nat)) (a14 : List (List Int)) : Option (Int × Bool × List Int) := bif a1 == (1 : Int) then some (a5, true, a8) else bif a1 == (2 : Int) then a13[a0]?.bind fun t => bindC (a14[t.2.2.2.1]?.bind fun t => some t.length) fun t_1 => bif decide ((0 : Int) ≤ a3) then bif a3.toNat.blt t_1 then a14[t.2.2.2.1]?.bind fun t => t[a3.toNat]?.bind fun t => some (t, true, a8) else none else none else bif a1 == (3 : Int) then a13[a0]?.bind fun t => bindC (a14[t.2.2.2.1]?.bind fun t => some t.length) fun t_1 => bif decide ((0 : Int) ≤ a3) then bif a3.toNat.blt t_1 then a14[t.2.2.2.1]?.bind fun t => t[a3.toNat]?.bind fun t => some (IntKind.i64.wrap ((0 : Int) - t), true, a8) else none else none else bif a1 == (13 : Int) then bif decide ((0 : Int) ≤ a4) then bif a4.toNat.blt a11.length then a11[a4.toNat]?.bind fun t => some (t, true, a8) else none else none else bif a1 == (15 : Int) then bif (↑a8.length : Int) == (0 : Int) then some ((0 : Int), false, a8) else a8[(0 : Nat)]?.bind fun t => bif decide ((1 : Int) ≤ (↑a8.length : Int)) && decide ((↑a8.length : Int) ≤ (↑a8.length : Int)) && true then some (t, true, List.drop (1 : Nat) (List.take (↑a8.length : Int).toNat a8)) else none else a13[a0]?.bind fun t => bindC (a14[t.2.2.2.1]?.bind fun t => some t.length) fun t_1 => bif decide ((0 : Int) ≤ a3) then bif a3.toNat.blt t_1 then a14[t.2.2.2.1]?.bind fun t => t[a3.toNat]?.bind fun t => a13[a0]?.bind fun t_2 => bindC (a14[t_2.2.2.2.1]?.bind fun t => some t.length) fun t_3 => bif decide ((0 : Int) ≤ a4) then bif a4.toNat.blt t_3 then a14[t_2.2.2.2.1]?.bind fun t_4 => t_4[a4.toNat]?.bind fun t_5 => (vm_Arith.f K a1 t t_5).bind fun t => some (t.1, t.2, a8) else none else none else none else none
noncomputable def F (K : Nat) : sig.In → Option (Int × Bool × List Int) := fun x => f K x.1.2.1 x.1.2.2.1 x.1.2.2.2.2.1 x.1.2.2.2.2.2.1 x.1.2.2.2.2.2.2.1 x.2.1.2.2.1 x.2.2.1 x.2.2.2.2.1 x.2.2.2.2.2.1
noncomputable def cv : sig.In → (Int × Bool × List Int) → sig.Ou := fun x r => ((r.1, r.2.1), ((x.2.1.1, ((), (r.2.2, ((), ((), (x.2.1.2.2.2.2.2.1, x.2.1.2.2.2.2.2.2)))))), (x.2.2.1, (x.2.2.2.1, (x.2.2.2.2.1, (x.2.2.2.2.2.1, (x.2.2.2.2.2.2.1, ())))))))
theorem rets (K : Nat) : ∀ x y, withCv (F K) cv x = some y → Rets M 110 sig x y := runF_retsS (C := (C K)) (LP := noLoops) (RF := noRefit) (CP := noCuts) callsE_ok mxd noRefit_ok noCuts_ok (noL (by kernel_rfl)) (lb rfl) Tryz.func110 (by kernel_rfl) fun x => by
  rw [withCv_def]
  unfold F f
  try simp only [el]
  kernel_rfl
noncomputable def e (K : Nat) : En M := ⟨110, sig, _, F K, cv, by rfl, Tryz.f110, Tryz.func110, by kernel_rfl, rfl, rets K⟩
end vm_Machine_value
namespace vm_Machine_insn
noncomputable def sig : Sig := ⟨(.cons (.ptr 0 0) (.cons (.ptrI 3 0) (.agg (.cons (.ty yI) (.cons (.ty yI) (.cons (.ty yI) (.cons (.ty yI) (.cons (.ty yI) (.ty (.slice yI)))))))))), [.cells 132 0 (.cons (.ty (.ptr yprogram)) (.cons (.own 1) (.cons (.ty (.slice yI)) (.cons (.own 2) (.cons (.own 3) (.cons (.ty yI) (.ty yI))))))), .list 2 yI [], .list 2 yI [], .list 86 (.pair yI (.pair yI (.pair yI (.pair (.own 0) (.own 1))))) [4, 5], .many 2 yI, .many 3 yI], (.ty .bool), [.cells 132 0 (.cons (.ty (.ptr yprogram)) (.cons (.own 1) (.cons (.ty (.slice yI)) (.cons (.own 6) (.cons (.own 7) (.cons (.ty yI) (.ty yI))))))), .list 2 yI [], .dead, .dead, .many 2 yI, .many 3 yI, .list 2 yI [], .list 86 (.pair yI (.pair yI (.pair yI (.pair (.own 0) (.own 1))))) [4, 5]]⟩
noncomputable def C {α : Type} (K : Nat) : CallsBy α := callsE (M := M) [vm_Machine_call.e K, vm_Machine_value.e K, vm_Machine_set.e K]
noncomputable def f (K : Nat) (a0 : Nat) (a1 : Int) (a2 : Int) (a3 : Int) (a4 : Int) (a5 : Int) (a6 : List Int) (a7 : Option Lprogram) (a8 : List Int) (a11 : List Int) (a12 : List Int) (a13 : List (Int × Int × Int × Nat × Nat)) (a14 : List (List Int)) (a15 : List (List Int)) : Option (Bool × List Int × List Int × List (List Int) × List (List Int) × List Int × (List (Int × Int × Int × Nat × Nat))) := bif a1 == (17 : Int) then (vm_Machine_call.f K a0 a4 a6 a7 a13 a14 a15).bind fun t => some (t.1, a8, a11, t.2.1, t.2.2.1, a12, t.2.2.2) else bif a1 == (14 : Int) then a13[a0]?.bind fun t => bindC (a14[t.2.2.2.1]?.bind fun t => some t.length) fun t_1 => bif decide ((0 : Int) ≤ a3) then bif a3.toNat.blt t_1 then a14[t.2.2.2.1]?.bind fun t => t[a3.toNat]?.bind fun t => bif decide ((0 : Int) ≤ a4) then bif a4.toNat.blt a11.length then a11[a4.toNat]?.bind fun t_2 => a13[a0]?.bind fun t_3 => a13[a0]?.bind fun t_4 => some (true, a8, a11.set a4.toNat t, a14, a15, a12, a13.set a0 (t_4.1, t_4.2.1, IntKind.i64.wrap (t_3.2.2.1 + (1 : Int)), t_4.2.2.2.1, t_4.2.2.2.2)) else none else none else none else none else bif a1 == (16 : Int) then a13[a0]?.bind fun t => bindC (a14[t.2.2.2.1]?.bind fun t => some t.length) fun t_1 => bif decide ((0 : Int) ≤ a3) then bif a3.toNat.blt t_1 then a14[t.2.2.2.1]?.bind fun t => t[a3.toNat]?.bind fun t => bif (a12.length + [t].length).ble (100000 : Nat) then a13[a0]?.bind fun t_2 => a13[a0]?.bind fun t_3 => some (true, a8, a11, a14, a15, a12 ++ [t], a13.set a0 (t_3.1, t_3.2.1, IntKind.i64.wrap (t_2.2.2.1 + (1 : Int)), t_3.2.2.2.1, t_3.2.2.2.2)) else none else none else none else (vm_Machine_value.f K a0 a1 a3 a4 a5 a8 a11 a13 a14).bind fun t => bif t.2.1 then (vm_Machine_set.f K a0 a2 t.1 a7 a13 a14 a15).bind fun t_1 => some (t.2.1, t.2.2, a11, t_1.2.1, t_1.2.2, a12, t_1.1) else some (t.2.1, t.2.2, a11, a14, a15, a12, a13)
noncomputable def F (K : Nat) : sig.In → Option (Bool × List Int × List Int × List (List Int) × List (List Int) × List Int × (List (Int × Int × Int × Nat × Nat))) := fun x => f K x.1.2.1 x.1.2.2.1 x.1.2.2.2.1 x.1.2.2.2.2.1 x.1.2.2.2.2.2.1 x.1.2.2.2.2.2.2.1 x.1.2.2.2.2.2.2.2 x.2.1.1 x.2.1.2.2.1 x.2.2.1 x.2.2.2.1 x.2.2.2.2.1 x.2.2.2.2.2.1 x.2.2.2.2.2.2.1
noncomputable def cv : sig.In → (Bool × List Int × List Int × List (List Int) × List (List Int) × List Int × (List (Int × Int × Int × Nat × Nat))) → sig.Ou := fun x r => (r.1, ((x.2.1.1, ((), (r.2.1, ((), ((), (x.2.1.2.2.2.2.2.1, x.2.1.2.2.2.2.2.2)))))), (r.2.2.1, ((), ((), (r.2.2.2.1, (r.2.2.2.2.1, (r.2.2.2.2.2.1, (r.2.2.2.2.2.2, ())))))))))
theorem rets (K : Nat) : ∀ x y, withCv (F K) cv x = some y → Rets M 58 sig x y := runF_retsS (C := (C K)) (LP := noLoops) (RF := noRefit) (CP := noCuts) callsE_ok mxd noRefit_ok noCuts_ok (noL (by kernel_rfl)) (lb rfl) Tryz.func58 (by kernel_rfl) fun x => by
  rw [withCv_def]
  unfold F f
  try simp only [el]
  kernel_rfl
noncomputable def e (K : Nat) : En M := ⟨58, sig, _, F K, cv, by rfl, Tryz.f58, Tryz.func58, by kernel_rfl, rfl, rets K⟩
end vm_Machine_insn
namespace vm_Machine_Step
noncomputable def sig : Sig := ⟨(.ptr 0 0), [.cells 132 0 (.cons (.ty (.ptr yprogram)) (.cons (.own 1) (.cons (.ty (.slice yI)) (.cons (.own 2) (.cons (.own 3) (.cons (.ty yI) (.ty yI))))))), .list 2 yI [], .list 2 yI [], .list 86 (.pair yI (.pair yI (.pair yI (.pair (.own 0) (.own 1))))) [4, 5], .many 2 yI, .many 3 yI], (.ty .bool), [.cells 132 0 (.cons (.ty (.ptr yprogram)) (.cons (.own 1) (.cons (.ty (.slice yI)) (.cons (.own 6) (.cons (.own 7) (.cons (.ty yI) (.ty yI))))))), .list 2 yI [], .dead, .dead, .many 2 yI, .many 3 yI, .list 2 yI [], .list 86 (.pair yI (.pair yI (.pair yI (.pair (.own 0) (.own 1))))) [4, 5]]⟩
noncomputable def C {α : Type} (K : Nat) : CallsBy α := callsE (M := M) [vm_Machine_inner.e K, vm_Machine_end.e K, vm_Machine_insn.e K]
noncomputable def CP {α : Type} (K : Nat) : CutBy α := (cpPut 1 (rpCut M bindC [.bool] [13] (C K) (eqBy M.P)) noCuts)
theorem CP_ok {α : Type} (K : Nat) : CutsOk (α := α) M 6 (CP K) := (cpPut_ok (rpCut_ok callsE_ok (eqBy_ok _) mxd) noCuts_ok)
noncomputable def f (K : Nat) (a0 : Option Lprogram) (a1 : List Int) (a2 : Int) (a3 : Int) (a4 : List Int) (a5 : List Int) (a6 : List (Int × Int × Int × Nat × Nat)) (a7 : List (List Int)) (a8 : List (List Int)) : Option (Bool × List Int × Int × Int × List Int × List (List Int) × List (List Int) × List Int × (List (Int × Int × Int × Nat × Nat))) := bindC (some (a2 != (0 : Int))) fun t => bif t then some (false, a1, a2, a3, a4, a7, a8, a5, a6) else (vm_Machine_inner.f K a6).bind fun t => a0.bind fun t_1 => a6[t]?.bind fun t_2 => bif decide ((0 : Int) ≤ t_2.1) && true then t_1.2.1[Int.toNat t_2.1]?.bind fun t_3 => a6[t]?.bind fun t_4 => bif decide ((0 : Int) ≤ t_4.2.1) && true then t_3[Int.toNat t_4.2.1]?.bind fun t_5 => a6[t]?.bind fun t_6 => bif t_6.2.2.1 == (↑(List.length t_5.1) : Int) then (vm_Machine_end.f K t t_5.2.2.1 t_5.2.2.2.1 t_5.2.2.2.2.1 t_5.2.2.2.2.2 a0 a2 a3 a6 a7 a8).bind fun t => some (true, a1, t.1, t.2.1, a4, t.2.2.1, t.2.2.2.1, a5, t.2.2.2.2) else a6[t]?.bind fun t_7 => bif decide ((0 : Int) ≤ t_7.2.2.1) && true then t_5.1[Int.toNat t_7.2.2.1]?.bind fun t_8 => (vm_Machine_insn.f K t t_8.1 t_8.2.1 t_8.2.2.1 t_8.2.2.2.1 t_8.2.2.2.2.1 t_8.2.2.2.2.2 a0 a1 a4 a5 a6 a7 a8).bind fun t => bif !t.1 then some (false, t.2.1, (2 : Int), a3, t.2.2.1, t.2.2.2.1, t.2.2.2.2.1, t.2.2.2.2.2.1, t.2.2.2.2.2.2) else some (true, t.2.1, a2, a3, t.2.2.1, t.2.2.2.1, t.2.2.2.2.1, t.2.2.2.2.2.1, t.2.2.2.2.2.2) else none else none else none
noncomputable def F (K : Nat) : sig.In → Option (Bool × List Int × Int × Int × List Int × List (List Int) × List (List Int) × List Int × (List (Int × Int × Int × Nat × Nat))) := fun x => f K x.2.1.1 x.2.1.2.2.1 x.2.1.2.2.2.2.2.1 x.2.1.2.2.2.2.2.2 x.2.2.1 x.2.2.2.1 x.2.2.2.2.1 x.2.2.2.2.2.1 x.2.2.2.2.2.2.1
noncomputable def cv : sig.In → (Bool × List Int × Int × Int × List Int × List (List Int) × List (List Int) × List Int × (List (Int × Int × Int × Nat × Nat))) → sig.Ou := fun x r => (r.1, ((x.2.1.1, ((), (r.2.1, ((), ((), (r.2.2.1, r.2.2.2.1)))))), (r.2.2.2.2.1, ((), ((), (r.2.2.2.2.2.1, (r.2.2.2.2.2.2.1, (r.2.2.2.2.2.2.2.1, (r.2.2.2.2.2.2.2.2, ())))))))))
theorem rets (K : Nat) : ∀ x y, withCv (F K) cv x = some y → Rets M 14 sig x y := runF_retsS (C := (C K)) (LP := noLoops) (RF := noRefit) (CP := (CP K)) callsE_ok mxd noRefit_ok (CP_ok K) (noL (by kernel_rfl)) (lb rfl) Tryz.func14 (by kernel_rfl) fun x => by
  rw [withCv_def]
  unfold F f
  try simp only [el]
  kernel_rfl
noncomputable def e (K : Nat) : En M := ⟨14, sig, _, F K, cv, by rfl, Tryz.f14, Tryz.func14, by kernel_rfl, rfl, rets K⟩
end vm_Machine_Step
namespace vm_Machine_Run
noncomputable def sig : Sig := ⟨(.cons (.ptr 0 0) (.ty yI)), [.cells 132 0 (.cons (.ty (.ptr yprogram)) (.cons (.own 1) (.cons (.ty (.slice yI)) (.cons (.own 2) (.cons (.own 3) (.cons (.ty yI) (.ty yI))))))), .list 2 yI [], .list 2 yI [], .list 86 (.pair yI (.pair yI (.pair yI (.pair (.own 0) (.own 1))))) [4, 5], .many 2 yI, .many 3 yI], (.ty yI), [.cells 132 0 (.cons (.ty (.ptr yprogram)) (.cons (.own 1) (.cons (.ty (.slice yI)) (.cons (.own 6) (.cons (.own 7) (.cons (.ty yI) (.ty yI))))))), .list 2 yI [], .dead, .dead, .many 2 yI, .many 3 yI, .list 2 yI [], .list 86 (.pair yI (.pair yI (.pair yI (.pair (.own 0) (.own 1))))) [4, 5]]⟩
noncomputable def C {α : Type} (K : Nat) : CallsBy α := callsE (M := M) [vm_Machine_Step.e K]
noncomputable def l0.h : SSh := ⟨[0, 1, 5], (.cons (.ptr 0 0) (.cons (.ty yI) (.ty yI))), [.cells 132 0 (.cons (.ty (.ptr yprogram)) (.cons (.own 1) (.cons (.ty (.slice yI)) (.cons (.own 6) (.cons (.own 7) (.cons (.ty yI) (.ty yI))))))), .list 2 yI [], .dead, .dead, .many 2 yI, .many 3 yI, .list 2 yI [], .list 86 (.pair yI (.pair yI (.pair yI (.pair (.own 0) (.own 1))))) [4, 5]]⟩
noncomputable def l0.x : SSh := ⟨[5], (.ty yI), [.cells 132 0 (.cons (.ty (.ptr yprogram)) (.cons (.own 1) (.cons (.ty (.slice yI)) (.cons (.own 6) (.cons (.own 7) (.cons (.ty yI) (.ty yI))))))), .list 2 yI [], .dead, .dead, .many 2 yI, .many 3 yI, .list 2 yI [], .list 86 (.pair yI (.pair yI (.pair yI (.pair (.own 0) (.own 1))))) [4, 5]]⟩
noncomputable def l0.cx : l0.h.I → (Int × List Int × Int × Int × List Int × List (List Int) × List (List Int) × List Int × (List (Int × Int × Int × Nat × Nat))) → l0.x.I := fun x r => (r.1, ((x.2.1.1, ((), (r.2.1, ((), ((), (r.2.2.1, r.2.2.2.1)))))), (r.2.2.2.2.1, ((), ((), (r.2.2.2.2.2.1, (r.2.2.2.2.2.2.1, (r.2.2.2.2.2.2.2.1, (r.2.2.2.2.2.2.2.2, ())))))))))
noncomputable def l0.f (K : Nat) : Nat → Int → Int → Option Lprogram → List Int → Int → Int → List Int → List (List Int) → List (List Int) → List Int → List (Int × Int × Int × Nat × Nat) → Option (Int × List Int × Int × Int × List Int × List (List Int) × List (List Int) × List Int × (List (Int × Int × Int × Nat × Nat)))
  | 0, _, _, _, _, _, _, _, _, _, _, _ => none
  | k + 1, a0, a1, a2, a3, a4, a5, a6, a7, a8, a9, a10 => bif decide (a1 < a0) then (vm_Machine_Step.f K a2 a3 a4 a5 a6 a9 a10 a7 a8).bind fun t => bif t.1 then l0.f K k a0 (IntKind.i64.wrap (a1 + (1 : Int))) a2 t.2.1 t.2.2.1 t.2.2.2.1 t.2.2.2.2.1 t.2.2.2.2.2.1 t.2.2.2.2.2.2.1 t.2.2.2.2.2.2.2.1 t.2.2.2.2.2.2.2.2 else some (a1, t.2.1, t.2.2.1, t.2.2.2.1, t.2.2.2.2.1, t.2.2.2.2.2.1, t.2.2.2.2.2.2.1, t.2.2.2.2.2.2.2.1, t.2.2.2.2.2.2.2.2) else some (a1, a3, a4, a5, a6, a7, a8, a9, a10)
noncomputable def l0.F (K : Nat) (k : Nat) : l0.h.I → Option (Int × List Int × Int × Int × List Int × List (List Int) × List (List Int) × List Int × (List (Int × Int × Int × Nat × Nat))) := fun x => l0.f K k x.1.2.1 x.1.2.2 x.2.1.1 x.2.1.2.2.1 x.2.1.2.2.2.2.2.1 x.2.1.2.2.2.2.2.2 x.2.2.1 x.2.2.2.2.2.1 x.2.2.2.2.2.2.1 x.2.2.2.2.2.2.2.1 x.2.2.2.2.2.2.2.2.1
noncomputable def l0.lp {α : Type} (K : Nat) : St → Kn α → Option α := lpX 6 16 0 l0.h l0.x (l0.F K K) l0.cx
theorem l0.ok {α : Type} (K : Nat) : LoopOk (α := α) M 6 (nthLoop Tryz.f34 0) (l0.lp K) := lpX_okS (C := (C K)) (LP := noLoops) (RF := noRefit) (CP := noCuts) (L := 20) callsE_ok mxd noRefit_ok noCuts_ok (noL (by kernel_rfl)) (lb rfl) (lb rfl) (fun x => rfl) fun k x => by
  rw [withCv_def]
  unfold l0.F
  rw [l0.f]
  try simp only [el]
  kernel_rfl
noncomputable def f (K : Nat) (a0 : Int) (a1 : Option Lprogram) (a2 : List Int) (a3 : Int) (a4 : Int) (a5 : List Int) (a6 : List Int) (a7 : List (Int × Int × Int × Nat × Nat)) (a8 : List (List Int)) (a9 : List (List Int)) : Option (Int × List Int × Int × Int × List Int × List (List Int) × List (List Int) × List Int × (List (Int × Int × Int × Nat × Nat))) := l0.f K K a0 (0 : Int) a1 a2 a3 a4 a5 a8 a9 a6 a7
noncomputable def F (K : Nat) : sig.In → Option (Int × List Int × Int × Int × List Int × List (List Int) × List (List Int) × List Int × (List (Int × Int × Int × Nat × Nat))) := fun x => f K x.1.2 x.2.1.1 x.2.1.2.2.1 x.2.1.2.2.2.2.2.1 x.2.1.2.2.2.2.2.2 x.2.2.1 x.2.2.2.1 x.2.2.2.2.1 x.2.2.2.2.2.1 x.2.2.2.2.2.2.1
noncomputable def cv : sig.In → (Int × List Int × Int × Int × List Int × List (List Int) × List (List Int) × List Int × (List (Int × Int × Int × Nat × Nat))) → sig.Ou := fun x r => (r.1, ((x.2.1.1, ((), (r.2.1, ((), ((), (r.2.2.1, r.2.2.2.1)))))), (r.2.2.2.2.1, ((), ((), (r.2.2.2.2.2.1, (r.2.2.2.2.2.2.1, (r.2.2.2.2.2.2.2.1, (r.2.2.2.2.2.2.2.2, ())))))))))
theorem rets (K : Nat) : ∀ x y, withCv (F K) cv x = some y → Rets M 34 sig x y := runF_retsS (C := (C K)) (LP := (lpPut 2 (l0.lp K) noLoops)) (RF := noRefit) (CP := noCuts) callsE_ok mxd noRefit_ok noCuts_ok (show LoopsOk M 6 (lpPut 2 (l0.lp K) noLoops) (loopsOf (bodyOf Tryz.f34)) from (show loopsOf (bodyOf Tryz.f34) = [nthLoop Tryz.f34 0] by kernel_rfl) ▸ (loopsOk_put (key := 2) (by kernel_rfl) (l0.ok K) noLoops_ok (by kernel_rfl))) (lb rfl) Tryz.func34 (by kernel_rfl) fun x => by
  rw [withCv_def]
  unfold F f
  try simp only [el]
  kernel_rfl
noncomputable def e (K : Nat) : En M := ⟨34, sig, _, F K, cv, by rfl, Tryz.f34, Tryz.func34, by kernel_rfl, rfl, rets K⟩
end vm_Machine_Run
namespace vm_Machine_Result
noncomputable def sig : Sig := ⟨(.ptr 0 0), [.cells 132 0 (.cons (.ty (.ptr yprogram)) (.cons (.own 1) (.cons (.ty (.slice yI)) (.cons (.own 2) (.cons (.own 3) (.cons (.ty yI) (.ty yI))))))), .list 2 yI [], .list 2 yI [], .list 86 (.pair yI (.pair yI (.pair yI (.pair (.own 0) (.own 1))))) [4, 5], .many 2 yI, .many 3 yI], (.cons (.ty yI) (.ty .bool)), [.cells 132 0 (.cons (.ty (.ptr yprogram)) (.cons (.own 1) (.cons (.ty (.slice yI)) (.cons (.own 2) (.cons (.own 3) (.cons (.ty yI) (.ty yI))))))), .list 2 yI [], .list 2 yI [], .list 86 (.pair yI (.pair yI (.pair yI (.pair (.own 0) (.own 1))))) [4, 5], .many 2 yI, .many 3 yI]⟩
noncomputable def C {α : Type} (K : Nat) : CallsBy α := callsE (M := M) []
noncomputable def CP {α : Type} (K : Nat) : CutBy α := (cpPut 1 (rpCut M bindC [.bool] [12] (C K) (eqBy M.P)) noCuts)
theorem CP_ok {α : Type} (K : Nat) : CutsOk (α := α) M 6 (CP K) := (cpPut_ok (rpCut_ok callsE_ok (eqBy_ok _) mxd) noCuts_ok)
noncomputable def f (K : Nat) (a2 : Int) (a3 : Int) : Option (Int × Bool) := bindC (some (a2 != (1 : Int))) fun t => bif t then some ((0 : Int), false) else some (a3, true)
noncomputable def F (K : Nat) : sig.In → Option (Int × Bool) := fun x => f K x.2.1.2.2.2.2.2.1 x.2.1.2.2.2.2.2.2
noncomputable def cv : sig.In → (Int × Bool) → sig.Ou := fun x r => ((r.1, r.2), ((x.2.1.1, ((), (x.2.1.2.2.1, ((), ((), (x.2.1.2.2.2.2.2.1, x.2.1.2.2.2.2.2.2)))))), (x.2.2.1, (x.2.2.2.1, (x.2.2.2.2.1, (x.2.2.2.2.2.1, (x.2.2.2.2.2.2.1, ())))))))
theorem rets (K : Nat) : ∀ x y, withCv (F K) cv x = some y → Rets M 16 sig x y := runF_retsS (C := (C K)) (LP := noLoops) (RF := noRefit) (CP := (CP K)) callsE_ok mxd noRefit_ok (CP_ok K) (noL (by kernel_rfl)) (lb rfl) Tryz.func16 (by kernel_rfl) fun x => by
  rw [withCv_def]
  unfold F f
  try simp only [el]
  kernel_rfl
noncomputable def e (K : Nat) : En M := ⟨16, sig, _, F K, cv, by rfl, Tryz.f16, Tryz.func16, by kernel_rfl, rfl, rets K⟩
end vm_Machine_Result
namespace avermenttop_runs
noncomputable def sig : Sig := ⟨.unit, [], (.ty .bool), []⟩
noncomputable def C {α : Type} (K : Nat) : CallsBy α := callsE (M := M) [avermentlaw04_Tiny.e K, avermentlaw04_To.e K, code_Write.e K, code_Read.e K, vm_Start.e K, vm_Machine_Run.e K, vm_Machine_Result.e K]
noncomputable def CP {α : Type} (K : Nat) : CutBy α := (cpPut 4 (rpCut M bindC [.bool] [38] (C K) (eqBy M.P)) (cpPut 8 (rpCut M bindC [.bool] [0] (C K) (eqBy M.P)) noCuts))
theorem CP_ok {α : Type} (K : Nat) : CutsOk (α := α) M 0 (CP K) := (cpPut_ok (rpCut_ok callsE_ok (eqBy_ok _) mxd) (cpPut_ok (rpCut_ok callsE_ok (eqBy_ok _) mxd) noCuts_ok))
noncomputable def f (K : Nat) : Option (Bool) := (avermentlaw04_Tiny.f K).bind fun t => (avermentlaw04_To.f K t.1 t.2.1 t.2.2).bind fun t => (code_Write.f K t.1 t.2.1 t.2.2).bind fun t => (code_Read.f K t.1).bind fun t_1 => (vm_Start.f K t_1.1 t_1.2.1 t_1.2.2.1 (0 : Int) [] []).bind fun t_2 => bindC (bif bif true then !t.2.isNil else t.2.isNil then some true else bif bif true then !t_1.2.2.2.isNil else t_1.2.2.2.isNil then some true else some (bif true then !t_2.1.isNil else t_2.1.isNil)) fun t => bif t then some false else (vm_Machine_Run.f K (5 : Int) t_2.2.1 t_2.2.2.1 t_2.2.2.2.1 t_2.2.2.2.2.1 t_2.2.2.2.2.2.1 t_2.2.2.2.2.2.2.1 t_2.2.2.2.2.2.2.2.1 t_2.2.2.2.2.2.2.2.2.1 t_2.2.2.2.2.2.2.2.2.2).bind fun t => (vm_Machine_Result.f K t.2.2.1 t.2.2.2.1).bind fun t => bindC (bif t.1 == (5 : Int) then some t.2 else some false) fun t => some t
noncomputable def F (K : Nat) : sig.In → Option (Bool) := fun x => f K
noncomputable def cv : sig.In → Bool → sig.Ou := fun x r => (r, ())
theorem rets (K : Nat) : ∀ x y, withCv (F K) cv x = some y → Rets M 6 sig x y := runF_retsS (C := (C K)) (LP := noLoops) (RF := noRefit) (CP := (CP K)) callsE_ok mxd noRefit_ok (CP_ok K) (noL (by kernel_rfl)) (lb rfl) Tryz.func6 (by kernel_rfl) fun x => by
  rw [withCv_def]
  unfold F f
  try simp only [el]
  kernel_rfl
noncomputable def e (K : Nat) : En M := ⟨6, sig, _, F K, cv, by rfl, Tryz.f6, Tryz.func6, by kernel_rfl, rfl, rets K⟩
end avermenttop_runs
namespace avermentref04_Count
noncomputable def sig : Sig := ⟨(.agg (.cons (.ty (.slice yI)) (.cons (.ty (.slice yFunc)) (.ty (.slice yImport))))), [], (.ty yI), []⟩
noncomputable def C {α : Type} (K : Nat) : CallsBy α := callsE (M := M) []
noncomputable def f (K : Nat) (a1 : List LFunc) (a2 : List LImport) : Option (Int) := some (IntKind.i64.wrap ((↑a1.length : Int) + (↑a2.length : Int)))
noncomputable def F (K : Nat) : sig.In → Option (Int) := fun x => f K x.1.2.1 x.1.2.2
noncomputable def cv : sig.In → Int → sig.Ou := fun x r => (r, ())
theorem rets (K : Nat) : ∀ x y, withCv (F K) cv x = some y → Rets M 85 sig x y := runF_retsS (C := (C K)) (LP := noLoops) (RF := noRefit) (CP := noCuts) callsE_ok mxd noRefit_ok noCuts_ok (noL (by kernel_rfl)) (lb rfl) Tryz.func85 (by kernel_rfl) fun x => by
  rw [withCv_def]
  unfold F f
  try simp only [el]
  kernel_rfl
noncomputable def e (K : Nat) : En M := ⟨85, sig, _, F K, cv, by rfl, Tryz.f85, Tryz.func85, by kernel_rfl, rfl, rets K⟩
end avermentref04_Count
namespace avermentref04_Named
noncomputable def sig : Sig := ⟨(.ty .str), [], (.ty .bool), []⟩
noncomputable def C {α : Type} (K : Nat) : CallsBy α := callsE (M := M) []
noncomputable def CP {α : Type} (K : Nat) : CutBy α := (cpPut 1 (rpCut M bindC [.bool] [21] (C K) (eqBy M.P)) (cpPut 6 (rpCut M bindC [.bool] [49] (C K) (eqBy M.P)) noCuts))
theorem CP_ok {α : Type} (K : Nat) : CutsOk (α := α) M 0 (CP K) := (cpPut_ok (rpCut_ok callsE_ok (eqBy_ok _) mxd) (cpPut_ok (rpCut_ok callsE_ok (eqBy_ok _) mxd) noCuts_ok))
noncomputable def l0.h : SSh := ⟨[0, 3], (.cons (.ty .str) (.ty yI)), []⟩
noncomputable def l0.x : SSh := ⟨[], .unit, []⟩
noncomputable def l0.r : SSh := ⟨[2], (.ty .bool), []⟩
noncomputable def l0.cx : l0.h.I → Unit → l0.x.I := fun x r => ((), ())
noncomputable def l0.cr : l0.h.I → Bool → l0.r.I := fun x r => (r, ())
noncomputable def l0.f (K : Nat) : Nat → ByteArray → Int → Option ((Unit) ⊕ (Bool))
  | 0, _, _ => none
  | k + 1, a0, a1 => bif decide (a1 < (↑a0.size : Int)) then bindC (bif decide ((0 : Int) ≤ a1) then bif a1.toNat.blt a0.size then bif decide ((↑(a0[a1.toNat]?.getD (0 : UInt8)).toNat : Int) < (97 : Int)) then bif decide ((0 : Int) ≤ a1) then bif a1.toNat.blt a0.size then bif decide ((↑(a0[a1.toNat]?.getD (0 : UInt8)).toNat : Int) < (48 : Int)) then some true else bif decide ((0 : Int) ≤ a1) then bif a1.toNat.blt a0.size then some (decide ((↑(a0[a1.toNat]?.getD (0 : UInt8)).toNat : Int) > (57 : Int))) else none else none else none else none else bif decide ((0 : Int) ≤ a1) then bif a1.toNat.blt a0.size then bif decide ((↑(a0[a1.toNat]?.getD (0 : UInt8)).toNat : Int) > (122 : Int)) then bif decide ((0 : Int) ≤ a1) then bif a1.toNat.blt a0.size then bif decide ((↑(a0[a1.toNat]?.getD (0 : UInt8)).toNat : Int) < (48 : Int)) then some true else bif decide ((0 : Int) ≤ a1) then bif a1.toNat.blt a0.size then some (decide ((↑(a0[a1.toNat]?.getD (0 : UInt8)).toNat : Int) > (57 : Int))) else none else none else none else none else some false else none else none else none else none) fun t => bif t then some (Sum.inr false) else l0.f K k a0 (IntKind.i64.wrap (a1 + (1 : Int))) else some (Sum.inl ())
noncomputable def l0.F (K : Nat) (k : Nat) : l0.h.I → Option ((Unit) ⊕ (Bool)) := fun x => l0.f K k x.1.1 x.1.2
noncomputable def l0.lp {α : Type} (K : Nat) : St → Kn α → Option α := lpXRD 0 50 0 l0.h l0.x l0.r (l0.F K K) l0.cx l0.cr
theorem l0.ok {α : Type} (K : Nat) : LoopOk (α := α) M 0 (nthLoop Tryz.f86 0) (l0.lp K) := lpXRD_okS (C := (C K)) (LP := noLoops) (RF := noRefit) (CP := (CP K)) (L := 20) callsE_ok mxd noRefit_ok (CP_ok K) (noL (by kernel_rfl)) (lb rfl) (lb rfl) (lb rfl) (fun x => rfl) fun k x => by
  rw [withCv_def]
  unfold l0.F
  rw [l0.f]
  try simp only [el]
  kernel_rfl
noncomputable def f (K : Nat) (a0 : ByteArray) : Option (Bool) := bindC (bif decide ((↑a0.size : Int) < (1 : Int)) then some true else bif decide ((↑a0.size : Int) > (12 : Int)) then some true else bif Nat.blt (0 : Nat) a0.size then bif decide ((↑(a0[(0 : Nat)]?.getD (0 : UInt8)).toNat : Int) < (97 : Int)) then some true else bif Nat.blt (0 : Nat) a0.size then some (decide ((↑(a0[(0 : Nat)]?.getD (0 : UInt8)).toNat : Int) > (122 : Int))) else none else none) fun t => bif t then some false else (l0.f K K a0 (0 : Int)).bind fun t => Sum.elim (fun t => some true) (fun t => some t) t
noncomputable def F (K : Nat) : sig.In → Option (Bool) := fun x => f K x.1
noncomputable def cv : sig.In → Bool → sig.Ou := fun x r => (r, ())
theorem rets (K : Nat) : ∀ x y, withCv (F K) cv x = some y → Rets M 86 sig x y := runF_retsS (C := (C K)) (LP := (lpPut 4 (l0.lp K) noLoops)) (RF := noRefit) (CP := (CP K)) callsE_ok mxd noRefit_ok (CP_ok K) (show LoopsOk M 0 (lpPut 4 (l0.lp K) noLoops) (loopsOf (bodyOf Tryz.f86)) from (show loopsOf (bodyOf Tryz.f86) = [nthLoop Tryz.f86 0] by kernel_rfl) ▸ (loopsOk_put (key := 4) (by kernel_rfl) (l0.ok K) noLoops_ok (by kernel_rfl))) (lb rfl) Tryz.func86 (by kernel_rfl) fun x => by
  rw [withCv_def]
  unfold F f
  try simp only [el]
  kernel_rfl
noncomputable def e (K : Nat) : En M := ⟨86, sig, _, F K, cv, by rfl, Tryz.f86, Tryz.func86, by kernel_rfl, rfl, rets K⟩
end avermentref04_Named
namespace avermentref04_Name
noncomputable def sig : Sig := ⟨(.cons (.agg (.cons (.ty (.slice yI)) (.cons (.ty (.slice yFunc)) (.ty (.slice yImport))))) (.ty yI)), [], (.ty .str), []⟩
noncomputable def C {α : Type} (K : Nat) : CallsBy α := callsE (M := M) [avermentref04_Count.e K]
noncomputable def CP {α : Type} (K : Nat) : CutBy α := (cpPut 1 (rpCut M bindC [.bool] [13] (C K) (eqBy M.P)) (cpPut 3 (rpCut M bindC [.bool] [30] (C K) (eqBy M.P)) noCuts))
theorem CP_ok {α : Type} (K : Nat) : CutsOk (α := α) M 0 (CP K) := (cpPut_ok (rpCut_ok callsE_ok (eqBy_ok _) mxd) (cpPut_ok (rpCut_ok callsE_ok (eqBy_ok _) mxd) noCuts_ok))
noncomputable def f (K : Nat) (a1 : List LFunc) (a2 : List LImport) (a3 : Int) : Option (ByteArray) := bindC (bif decide (a3 ≥ (0 : Int)) then some (decide (a3 < (↑a1.length : Int))) else some false) fun t => bif t then bif decide ((0 : Int) ≤ a3) && true then a1[a3.toNat]?.bind fun t => some t.1 else none else bindC (bif decide (a3 ≥ (↑a1.length : Int)) then (avermentref04_Count.f K a1 a2).bind fun t => some (decide (a3 < t)) else some false) fun t => bif t then bif decide ((0 : Int) ≤ IntKind.i64.wrap (a3 - (↑a1.length : Int))) && true then a2[(IntKind.i64.wrap (a3 - (↑a1.length : Int))).toNat]?.bind fun t => some t.1 else none else some (ByteArray.mk #[])
noncomputable def F (K : Nat) : sig.In → Option (ByteArray) := fun x => f K x.1.1.2.1 x.1.1.2.2 x.1.2
noncomputable def cv : sig.In → ByteArray → sig.Ou := fun x r => (r, ())
theorem rets (K : Nat) : ∀ x y, withCv (F K) cv x = some y → Rets M 130 sig x y := runF_retsS (C := (C K)) (LP := noLoops) (RF := noRefit) (CP := (CP K)) callsE_ok mxd noRefit_ok (CP_ok K) (noL (by kernel_rfl)) (lb rfl) Tryz.func130 (by kernel_rfl) fun x => by
  rw [withCv_def]
  unfold F f
  try simp only [el]
  kernel_rfl
noncomputable def e (K : Nat) : En M := ⟨130, sig, _, F K, cv, by rfl, Tryz.f130, Tryz.func130, by kernel_rfl, rfl, rets K⟩
end avermentref04_Name
namespace avermentref04_Find
noncomputable def sig : Sig := ⟨(.cons (.agg (.cons (.ty (.slice yI)) (.cons (.ty (.slice yFunc)) (.ty (.slice yImport))))) (.ty .str)), [], (.ty yI), []⟩
noncomputable def C {α : Type} (K : Nat) : CallsBy α := callsE (M := M) [avermentref04_Count.e K, avermentref04_Name.e K]
noncomputable def l0.h : SSh := ⟨[1, 2, 5], (.cons (.ty .str) (.cons (.ptr 0 0) (.ty yI))), [.cells 26 0 (.cons (.ty (.slice yI)) (.cons (.ty (.slice yFunc)) (.ty (.slice yImport))))]⟩
noncomputable def l0.x : SSh := ⟨[], .unit, []⟩
noncomputable def l0.r : SSh := ⟨[4], (.ty yI), []⟩
noncomputable def l0.cx : l0.h.I → Unit → l0.x.I := fun x r => ((), ())
noncomputable def l0.cr : l0.h.I → Int → l0.r.I := fun x r => (r, ())
noncomputable def l0.f (K : Nat) : Nat → ByteArray → Int → List LFunc → List LImport → Option ((Unit) ⊕ (Int))
  | 0, _, _, _, _ => none
  | k + 1, a0, a1, a3, a4 => (avermentref04_Count.f K a3 a4).bind fun t => bif decide (a1 < t) then (avermentref04_Name.f K a3 a4 a1).bind fun t => bif t.toList == a0.toList then some (Sum.inr a1) else l0.f K k a0 (IntKind.i64.wrap (a1 + (1 : Int))) a3 a4 else some (Sum.inl ())
noncomputable def l0.F (K : Nat) (k : Nat) : l0.h.I → Option ((Unit) ⊕ (Int)) := fun x => l0.f K k x.1.1 x.1.2.2 x.2.1.2.1 x.2.1.2.2
noncomputable def l0.lp {α : Type} (K : Nat) : St → Kn α → Option α := lpXRD 0 18 0 l0.h l0.x l0.r (l0.F K K) l0.cx l0.cr
theorem l0.ok {α : Type} (K : Nat) : LoopOk (α := α) M 0 (nthLoop Tryz.f87 0) (l0.lp K) := lpXRD_okS (C := (C K)) (LP := noLoops) (RF := noRefit) (CP := noCuts) (L := 20) callsE_ok mxd noRefit_ok noCuts_ok (noL (by kernel_rfl)) (lb rfl) (lb rfl) (lb rfl) (fun x => rfl) fun k x => by
  rw [withCv_def]
  unfold l0.F
  rw [l0.f]
  try simp only [el]
  kernel_rfl
noncomputable def f (K : Nat) (a1 : List LFunc) (a2 : List LImport) (a3 : ByteArray) : Option (Int) := (l0.f K K a3 (0 : Int) a1 a2).bind fun t => Sum.elim (fun t => some (-1 : Int)) (fun t => some t) t
noncomputable def F (K : Nat) : sig.In → Option (Int) := fun x => f K x.1.1.2.1 x.1.1.2.2 x.1.2
noncomputable def cv : sig.In → Int → sig.Ou := fun x r => (r, ())
theorem rets (K : Nat) : ∀ x y, withCv (F K) cv x = some y → Rets M 87 sig x y := runF_retsS (C := (C K)) (LP := (lpPut 2 (l0.lp K) noLoops)) (RF := noRefit) (CP := noCuts) callsE_ok mxd noRefit_ok noCuts_ok (show LoopsOk M 0 (lpPut 2 (l0.lp K) noLoops) (loopsOf (bodyOf Tryz.f87)) from (show loopsOf (bodyOf Tryz.f87) = [nthLoop Tryz.f87 0] by kernel_rfl) ▸ (loopsOk_put (key := 2) (by kernel_rfl) (l0.ok K) noLoops_ok (by kernel_rfl))) (lb rfl) Tryz.func87 (by kernel_rfl) fun x => by
  rw [withCv_def]
  unfold F f
  try simp only [el]
  kernel_rfl
noncomputable def e (K : Nat) : En M := ⟨87, sig, _, F K, cv, by rfl, Tryz.f87, Tryz.func87, by kernel_rfl, rfl, rets K⟩
end avermentref04_Find
namespace avermentref04_UsesD
noncomputable def sig : Sig := ⟨(.ty yI), [], (.ty .bool), []⟩
noncomputable def C {α : Type} (K : Nat) : CallsBy α := callsE (M := M) []
noncomputable def CP {α : Type} (K : Nat) : CutBy α := (cpPut 1 (rpCut M bindC [.bool] [2] (C K) (eqBy M.P)) noCuts)
theorem CP_ok {α : Type} (K : Nat) : CutsOk (α := α) M 0 (CP K) := (cpPut_ok (rpCut_ok callsE_ok (eqBy_ok _) mxd) noCuts_ok)
noncomputable def f (K : Nat) (a0 : Int) : Option (Bool) := bindC (bif decide (a0 ≥ (1 : Int)) then bif decide (a0 ≤ (13 : Int)) then some true else bif a0 == (15 : Int) then some true else some (a0 == (17 : Int)) else bif a0 == (15 : Int) then some true else some (a0 == (17 : Int))) fun t => some t
noncomputable def F (K : Nat) : sig.In → Option (Bool) := fun x => f K x.1
noncomputable def cv : sig.In → Bool → sig.Ou := fun x r => (r, ())
theorem rets (K : Nat) : ∀ x y, withCv (F K) cv x = some y → Rets M 131 sig x y := runF_retsS (C := (C K)) (LP := noLoops) (RF := noRefit) (CP := (CP K)) callsE_ok mxd noRefit_ok (CP_ok K) (noL (by kernel_rfl)) (lb rfl) Tryz.func131 (by kernel_rfl) fun x => by
  rw [withCv_def]
  unfold F f
  try simp only [el]
  kernel_rfl
noncomputable def e (K : Nat) : En M := ⟨131, sig, _, F K, cv, by rfl, Tryz.f131, Tryz.func131, by kernel_rfl, rfl, rets K⟩
end avermentref04_UsesD
namespace avermentref04_UsesA
noncomputable def sig : Sig := ⟨(.ty yI), [], (.ty .bool), []⟩
noncomputable def C {α : Type} (K : Nat) : CallsBy α := callsE (M := M) []
noncomputable def CP {α : Type} (K : Nat) : CutBy α := (cpPut 1 (rpCut M bindC [.bool] [2] (C K) (eqBy M.P)) noCuts)
theorem CP_ok {α : Type} (K : Nat) : CutsOk (α := α) M 0 (CP K) := (cpPut_ok (rpCut_ok callsE_ok (eqBy_ok _) mxd) noCuts_ok)
noncomputable def f (K : Nat) (a0 : Int) : Option (Bool) := bindC (bif decide (a0 ≥ (2 : Int)) then bif decide (a0 ≤ (12 : Int)) then some true else bif a0 == (14 : Int) then some true else some (a0 == (16 : Int)) else bif a0 == (14 : Int) then some true else some (a0 == (16 : Int))) fun t => some t
noncomputable def F (K : Nat) : sig.In → Option (Bool) := fun x => f K x.1
noncomputable def cv : sig.In → Bool → sig.Ou := fun x r => (r, ())
theorem rets (K : Nat) : ∀ x y, withCv (F K) cv x = some y → Rets M 132 sig x y := runF_retsS (C := (C K)) (LP := noLoops) (RF := noRefit) (CP := (CP K)) callsE_ok mxd noRefit_ok (CP_ok K) (noL (by kernel_rfl)) (lb rfl) Tryz.func132 (by kernel_rfl) fun x => by
  rw [withCv_def]
  unfold F f
  try simp only [el]
  kernel_rfl
noncomputable def e (K : Nat) : En M := ⟨132, sig, _, F K, cv, by rfl, Tryz.f132, Tryz.func132, by kernel_rfl, rfl, rets K⟩
end avermentref04_UsesA
namespace avermentref04_UsesB
noncomputable def sig : Sig := ⟨(.ty yI), [], (.ty .bool), []⟩
noncomputable def C {α : Type} (K : Nat) : CallsBy α := callsE (M := M) []
noncomputable def CP {α : Type} (K : Nat) : CutBy α := (cpPut 1 (rpCut M bindC [.bool] [2] (C K) (eqBy M.P)) noCuts)
theorem CP_ok {α : Type} (K : Nat) : CutsOk (α := α) M 0 (CP K) := (cpPut_ok (rpCut_ok callsE_ok (eqBy_ok _) mxd) noCuts_ok)
noncomputable def f (K : Nat) (a0 : Int) : Option (Bool) := bindC (bif decide (a0 ≥ (4 : Int)) then some (decide (a0 ≤ (12 : Int))) else some false) fun t => some t
noncomputable def F (K : Nat) : sig.In → Option (Bool) := fun x => f K x.1
noncomputable def cv : sig.In → Bool → sig.Ou := fun x r => (r, ())
theorem rets (K : Nat) : ∀ x y, withCv (F K) cv x = some y → Rets M 133 sig x y := runF_retsS (C := (C K)) (LP := noLoops) (RF := noRefit) (CP := (CP K)) callsE_ok mxd noRefit_ok (CP_ok K) (noL (by kernel_rfl)) (lb rfl) Tryz.func133 (by kernel_rfl) fun x => by
  rw [withCv_def]
  unfold F f
  try simp only [el]
  kernel_rfl
noncomputable def e (K : Nat) : En M := ⟨133, sig, _, F K, cv, by rfl, Tryz.f133, Tryz.func133, by kernel_rfl, rfl, rets K⟩
end avermentref04_UsesB
namespace avermentref04_below_has
noncomputable def sig : Sig := ⟨(.cons (.ty yI) (.ty yI)), [], (.ty .bool), []⟩
noncomputable def C {α : Type} (K : Nat) : CallsBy α := callsE (M := M) []
noncomputable def CP {α : Type} (K : Nat) : CutBy α := (cpPut 1 (rpCut M bindC [.bool] [4] (C K) (eqBy M.P)) noCuts)
theorem CP_ok {α : Type} (K : Nat) : CutsOk (α := α) M 0 (CP K) := (cpPut_ok (rpCut_ok callsE_ok (eqBy_ok _) mxd) noCuts_ok)
noncomputable def f (K : Nat) (a0 : Int) (a1 : Int) : Option (Bool) := bindC (bif decide (a1 ≥ (0 : Int)) then some (decide (a1 < a0)) else some false) fun t => some t
noncomputable def F (K : Nat) : sig.In → Option (Bool) := fun x => f K x.1.1 x.1.2
noncomputable def cv : sig.In → Bool → sig.Ou := fun x r => (r, ())
theorem rets (K : Nat) : ∀ x y, withCv (F K) cv x = some y → Rets M 134 sig x y := runF_retsS (C := (C K)) (LP := noLoops) (RF := noRefit) (CP := (CP K)) callsE_ok mxd noRefit_ok (CP_ok K) (noL (by kernel_rfl)) (lb rfl) Tryz.func134 (by kernel_rfl) fun x => by
  rw [withCv_def]
  unfold F f
  try simp only [el]
  kernel_rfl
noncomputable def e (K : Nat) : En M := ⟨134, sig, _, F K, cv, by rfl, Tryz.f134, Tryz.func134, by kernel_rfl, rfl, rets K⟩
end avermentref04_below_has
namespace avermentref04_Arity
noncomputable def sig : Sig := ⟨(.cons (.agg (.cons (.ty (.slice yI)) (.cons (.ty (.slice yFunc)) (.ty (.slice yImport))))) (.ty yI)), [], (.ty yI), []⟩
noncomputable def C {α : Type} (K : Nat) : CallsBy α := callsE (M := M) [avermentref04_Count.e K]
noncomputable def CP {α : Type} (K : Nat) : CutBy α := (cpPut 1 (rpCut M bindC [.bool] [13] (C K) (eqBy M.P)) (cpPut 3 (rpCut M bindC [.bool] [30] (C K) (eqBy M.P)) noCuts))
theorem CP_ok {α : Type} (K : Nat) : CutsOk (α := α) M 0 (CP K) := (cpPut_ok (rpCut_ok callsE_ok (eqBy_ok _) mxd) (cpPut_ok (rpCut_ok callsE_ok (eqBy_ok _) mxd) noCuts_ok))
noncomputable def f (K : Nat) (a1 : List LFunc) (a2 : List LImport) (a3 : Int) : Option (Int) := bindC (bif decide (a3 ≥ (0 : Int)) then some (decide (a3 < (↑a1.length : Int))) else some false) fun t => bif t then bif decide ((0 : Int) ≤ a3) && true then a1[a3.toNat]?.bind fun t => some t.2.1 else none else bindC (bif decide (a3 ≥ (↑a1.length : Int)) then (avermentref04_Count.f K a1 a2).bind fun t => some (decide (a3 < t)) else some false) fun t => bif t then bif decide ((0 : Int) ≤ IntKind.i64.wrap (a3 - (↑a1.length : Int))) && true then a2[(IntKind.i64.wrap (a3 - (↑a1.length : Int))).toNat]?.bind fun t => some t.2 else none else some (-1 : Int)
noncomputable def F (K : Nat) : sig.In → Option (Int) := fun x => f K x.1.1.2.1 x.1.1.2.2 x.1.2
noncomputable def cv : sig.In → Int → sig.Ou := fun x r => (r, ())
theorem rets (K : Nat) : ∀ x y, withCv (F K) cv x = some y → Rets M 135 sig x y := runF_retsS (C := (C K)) (LP := noLoops) (RF := noRefit) (CP := (CP K)) callsE_ok mxd noRefit_ok (CP_ok K) (noL (by kernel_rfl)) (lb rfl) Tryz.func135 (by kernel_rfl) fun x => by
  rw [withCv_def]
  unfold F f
  try simp only [el]
  kernel_rfl
noncomputable def e (K : Nat) : En M := ⟨135, sig, _, F K, cv, by rfl, Tryz.f135, Tryz.func135, by kernel_rfl, rfl, rets K⟩
end avermentref04_Arity
namespace avermentref04_insn
noncomputable def sig : Sig := ⟨(.cons (.agg (.cons (.ty (.slice yI)) (.cons (.ty (.slice yFunc)) (.ty (.slice yImport))))) (.cons (.agg (.cons (.ty .str) (.cons (.ty yI) (.cons (.ty yI) (.ty (.slice yBlock)))))) (.agg (.cons (.ty yI) (.cons (.ty yI) (.cons (.ty yI) (.cons (.ty yI) (.cons (.ty yI) (.ty (.slice yI)))))))))), [], (.ty yI), []⟩
noncomputable def C {α : Type} (K : Nat) : CallsBy α := callsE (M := M) [avermentref04_UsesD.e K, avermentref04_UsesA.e K, avermentref04_UsesB.e K, avermentref04_below_has.e K, avermentref04_Count.e K, avermentref04_Arity.e K]
noncomputable def CP {α : Type} (K : Nat) : CutBy α := (cpPut 1 (rpCut M bindC [.bool] [17] (C K) (eqBy M.P)) (cpPut 3 (rpCut M bindC [.bool] [7] (C K) (eqBy M.P)) (cpPut 4 (rpCut M bindC [.bool] [86] (C K) (eqBy M.P)) (cpPut 7 (rpCut M bindC [.bool] [122] (C K) (eqBy M.P)) (cpPut 9 (rpCut M bindC [.bool] [143] (C K) (eqBy M.P)) (cpPut 13 (rpCut M bindC [.bool] [156] (C K) (eqBy M.P)) noCuts))))))
theorem CP_ok {α : Type} (K : Nat) : CutsOk (α := α) M 0 (CP K) := (cpPut_ok (rpCut_ok callsE_ok (eqBy_ok _) mxd) (cpPut_ok (rpCut_ok callsE_ok (eqBy_ok _) mxd) (cpPut_ok (rpCut_ok callsE_ok (eqBy_ok _) mxd) (cpPut_ok (rpCut_ok callsE_ok (eqBy_ok _) mxd) (cpPut_ok (rpCut_ok callsE_ok (eqBy_ok _) mxd) (cpPut_ok (rpCut_ok callsE_ok (eqBy_ok _) mxd) noCuts_ok))))))
noncomputable def l0.h : SSh := ⟨[5, 8, 9], (.cons (.ptr 0 0) (.cons (.ty yI) (.ty yI))), [.cells 176 0 (.cons (.ty yI) (.cons (.ty yI) (.cons (.ty yI) (.cons (.ty yI) (.cons (.ty yI) (.ty (.slice yI)))))))]⟩
noncomputable def l0.x : SSh := ⟨[], .unit, []⟩
noncomputable def l0.r : SSh := ⟨[6], (.ty yI), []⟩
noncomputable def l0.cx : l0.h.I → Unit → l0.x.I := fun x r => ((), ())
noncomputable def l0.cr : l0.h.I → Int → l0.r.I := fun x r => (r, ())
noncomputable def l0.f (K : Nat) : Nat → Int → Int → List Int → Option ((Unit) ⊕ (Int))
  | 0, _, _, _ => none
  | k + 1, a0, a1, a7 => bif decide (a1 < (↑a7.length : Int)) then bif decide ((0 : Int) ≤ a1) && true then a7[a1.toNat]?.bind fun t => (avermentref04_below_has.f K a0 t).bind fun t => bif !t then some (Sum.inr (9 : Int)) else l0.f K k a0 (IntKind.i64.wrap (a1 + (1 : Int))) a7 else none else some (Sum.inl ())
noncomputable def l0.F (K : Nat) (k : Nat) : l0.h.I → Option ((Unit) ⊕ (Int)) := fun x => l0.f K k x.1.2.1 x.1.2.2 x.2.1.2.2.2.2.2
noncomputable def l0.lp {α : Type} (K : Nat) : St → Kn α → Option α := lpXRD 0 180 0 l0.h l0.x l0.r (l0.F K K) l0.cx l0.cr
theorem l0.ok {α : Type} (K : Nat) : LoopOk (α := α) M 0 (nthLoop Tryz.f88 0) (l0.lp K) := lpXRD_okS (C := (C K)) (LP := noLoops) (RF := noRefit) (CP := (CP K)) (L := 20) callsE_ok mxd noRefit_ok (CP_ok K) (noL (by kernel_rfl)) (lb rfl) (lb rfl) (lb rfl) (fun x => rfl) fun k x => by
  rw [withCv_def]
  unfold l0.F
  rw [l0.f]
  try simp only [el]
  kernel_rfl
noncomputable def f (K : Nat) (a0 : List Int) (a1 : List LFunc) (a2 : List LImport) (a5 : Int) (a7 : Int) (a8 : Int) (a9 : Int) (a10 : Int) (a11 : Int) (a12 : List Int) : Option (Int) := bindC (bif decide (a7 < (1 : Int)) then some true else some (decide (a7 > (17 : Int)))) fun t => bif t then some (5 : Int) else bindC (bif a7 == (13 : Int) then some true else bif a7 == (14 : Int) then some true else some (a7 == (17 : Int))) fun t => bindC ((avermentref04_UsesD.f K a7).bind fun t_1 => bif !t_1 then bif a8 != (0 : Int) then some true else (avermentref04_UsesA.f K a7).bind fun t_2 => bif !t_2 then bif a9 != (0 : Int) then some true else (avermentref04_UsesB.f K a7).bind fun t_3 => bif !t_3 then bif !t then bif a10 != (0 : Int) then some true else bif a7 != (1 : Int) then bif a11 != (0 : Int) then some true else bif a7 != (17 : Int) then some (decide ((↑a12.length : Int) > (0 : Int))) else some false else bif a7 != (17 : Int) then some (decide ((↑a12.length : Int) > (0 : Int))) else some false else bif a7 != (1 : Int) then bif a11 != (0 : Int) then some true else bif a7 != (17 : Int) then some (decide ((↑a12.length : Int) > (0 : Int))) else some false else bif a7 != (17 : Int) then some (decide ((↑a12.length : Int) > (0 : Int))) else some false else bif a7 != (1 : Int) then bif a11 != (0 : Int) then some true else bif a7 != (17 : Int) then some (decide ((↑a12.length : Int) > (0 : Int))) else some false else bif a7 != (17 : Int) then some (decide ((↑a12.length : Int) > (0 : Int))) else some false else (avermentref04_UsesB.f K a7).bind fun t_3 => bif !t_3 then bif !t then bif a10 != (0 : Int) then some true else bif a7 != (1 : Int) then bif a11 != (0 : Int) then some true else bif a7 != (17 : Int) then some (decide ((↑a12.length : Int) > (0 : Int))) else some false else bif a7 != (17 : Int) then some (decide ((↑a12.length : Int) > (0 : Int))) else some false else bif a7 != (1 : Int) then bif a11 != (0 : Int) then some true else bif a7 != (17 : Int) then some (decide ((↑a12.length : Int) > (0 : Int))) else some false else bif a7 != (17 : Int) then some (decide ((↑a12.length : Int) > (0 : Int))) else some false else bif a7 != (1 : Int) then bif a11 != (0 : Int) then some true else bif a7 != (17 : Int) then some (decide ((↑a12.length : Int) > (0 : Int))) else some false else bif a7 != (17 : Int) then some (decide ((↑a12.length : Int) > (0 : Int))) else some false else (avermentref04_UsesA.f K a7).bind fun t_2 => bif !t_2 then bif a9 != (0 : Int) then some true else (avermentref04_UsesB.f K a7).bind fun t_3 => bif !t_3 then bif !t then bif a10 != (0 : Int) then some true else bif a7 != (1 : Int) then bif a11 != (0 : Int) then some true else bif a7 != (17 : Int) then some (decide ((↑a12.length : Int) > (0 : Int))) else some false else bif a7 != (17 : Int) then some (decide ((↑a12.length : Int) > (0 : Int))) else some false else bif a7 != (1 : Int) then bif a11 != (0 : Int) then some true else bif a7 != (17 : Int) then some (decide ((↑a12.length : Int) > (0 : Int))) else some false else bif a7 != (17 : Int) then some (decide ((↑a12.length : Int) > (0 : Int))) else some false else bif a7 != (1 : Int) then bif a11 != (0 : Int) then some true else bif a7 != (17 : Int) then some (decide ((↑a12.length : Int) > (0 : Int))) else some false else bif a7 != (17 : Int) then some (decide ((↑a12.length : Int) > (0 : Int))) else some false else (avermentref04_UsesB.f K a7).bind fun t_3 => bif !t_3 then bif !t then bif a10 != (0 : Int) then some true else bif a7 != (1 : Int) then bif a11 != (0 : Int) then some true else bif a7 != (17 : Int) then some (decide ((↑a12.length : Int) > (0 : Int))) else some false else bif a7 != (17 : Int) then some (decide ((↑a12.length : Int) > (0 : Int))) else some false else bif a7 != (1 : Int) then bif a11 != (0 : Int) then some true else bif a7 != (17 : Int) then some (decide ((↑a12.length : Int) > (0 : Int))) else some false else bif a7 != (17 : Int) then some (decide ((↑a12.length : Int) > (0 : Int))) else some false else bif a7 != (1 : Int) then bif a11 != (0 : Int) then some true else bif a7 != (17 : Int) then some (decide ((↑a12.length : Int) > (0 : Int))) else some false else bif a7 != (17 : Int) then some (decide ((↑a12.length : Int) > (0 : Int))) else some false) fun t => bif t then some (3 : Int) else bindC ((avermentref04_UsesD.f K a7).bind fun t => bif t then (avermentref04_below_has.f K a5 a8).bind fun t => bif !t then some true else (avermentref04_UsesA.f K a7).bind fun t => bif t then (avermentref04_below_has.f K a5 a9).bind fun t => bif !t then some true else (avermentref04_UsesB.f K a7).bind fun t => bif t then (avermentref04_below_has.f K a5 a10).bind fun t => some !t else some false else (avermentref04_UsesB.f K a7).bind fun t => bif t then (avermentref04_below_has.f K a5 a10).bind fun t => some !t else some false else (avermentref04_UsesA.f K a7).bind fun t => bif t then (avermentref04_below_has.f K a5 a9).bind fun t => bif !t then some true else (avermentref04_UsesB.f K a7).bind fun t => bif t then (avermentref04_below_has.f K a5 a10).bind fun t => some !t else some false else (avermentref04_UsesB.f K a7).bind fun t => bif t then (avermentref04_below_has.f K a5 a10).bind fun t => some !t else some false) fun t => bif t then some (9 : Int) else bindC (bif a7 == (13 : Int) then bif decide (a10 < (0 : Int)) then some true else some (decide (a10 ≥ (↑a0.length : Int))) else bif a7 == (14 : Int) then bif decide (a10 < (0 : Int)) then some true else some (decide (a10 ≥ (↑a0.length : Int))) else some false) fun t => bif t then some (4 : Int) else bif a7 != (17 : Int) then some (0 : Int) else bindC (bif decide (a10 < (0 : Int)) then some true else (avermentref04_Count.f K a1 a2).bind fun t => some (decide (a10 ≥ t))) fun t => bif t then some (7 : Int) else (avermentref04_Arity.f K a1 a2 a10).bind fun t => bif (↑a12.length : Int) != t then some (10 : Int) else (l0.f K K a5 (0 : Int) a12).bind fun t => Sum.elim (fun t => some (0 : Int)) (fun t => some t) t
noncomputable def F (K : Nat) : sig.In → Option (Int) := fun x => f K x.1.1.1 x.1.1.2.1 x.1.1.2.2 x.1.2.1.2.2.1 x.1.2.2.1 x.1.2.2.2.1 x.1.2.2.2.2.1 x.1.2.2.2.2.2.1 x.1.2.2.2.2.2.2.1 x.1.2.2.2.2.2.2.2
noncomputable def cv : sig.In → Int → sig.Ou := fun x r => (r, ())
theorem rets (K : Nat) : ∀ x y, withCv (F K) cv x = some y → Rets M 88 sig x y := runF_retsS (C := (C K)) (LP := (lpPut 18 (l0.lp K) noLoops)) (RF := noRefit) (CP := (CP K)) callsE_ok mxd noRefit_ok (CP_ok K) (show LoopsOk M 0 (lpPut 18 (l0.lp K) noLoops) (loopsOf (bodyOf Tryz.f88)) from (show loopsOf (bodyOf Tryz.f88) = [nthLoop Tryz.f88 0] by kernel_rfl) ▸ (loopsOk_put (key := 18) (by kernel_rfl) (l0.ok K) noLoops_ok (by kernel_rfl))) (lb rfl) Tryz.func88 (by kernel_rfl) fun x => by
  rw [withCv_def]
  unfold F f
  try simp only [el]
  kernel_rfl
noncomputable def e (K : Nat) : En M := ⟨88, sig, _, F K, cv, by rfl, Tryz.f88, Tryz.func88, by kernel_rfl, rfl, rets K⟩
end avermentref04_insn
namespace avermentref04_end
noncomputable def sig : Sig := ⟨(.cons (.agg (.cons (.ty .str) (.cons (.ty yI) (.cons (.ty yI) (.ty (.slice yBlock)))))) (.agg (.cons (.ty yI) (.cons (.ty yI) (.cons (.ty yI) (.ty yI)))))), [], (.ty yI), []⟩
noncomputable def C {α : Type} (K : Nat) : CallsBy α := callsE (M := M) []
noncomputable def CP {α : Type} (K : Nat) : CutBy α := (cpPut 1 (rpCut M bindC [.bool] [12] (C K) (eqBy M.P)) (cpPut 3 (rpCut M bindC [.bool] [40] (C K) (eqBy M.P)) (cpPut 5 (rpCut M bindC [.bool] [55] (C K) (eqBy M.P)) (cpPut 7 (rpCut M bindC [.bool] [89] (C K) (eqBy M.P)) noCuts))))
theorem CP_ok {α : Type} (K : Nat) : CutsOk (α := α) M 0 (CP K) := (cpPut_ok (rpCut_ok callsE_ok (eqBy_ok _) mxd) (cpPut_ok (rpCut_ok callsE_ok (eqBy_ok _) mxd) (cpPut_ok (rpCut_ok callsE_ok (eqBy_ok _) mxd) (cpPut_ok (rpCut_ok callsE_ok (eqBy_ok _) mxd) noCuts_ok))))
noncomputable def f (K : Nat) (a2 : Int) (a3 : List LBlock) (a4 : Int) (a5 : Int) (a6 : Int) (a7 : Int) : Option (Int) := bindC (bif decide (a4 < (1 : Int)) then some true else some (decide (a4 > (3 : Int)))) fun t => bif t then some (5 : Int) else bindC (bif a4 == (1 : Int) then bif a5 != (0 : Int) then some true else bif a4 == (3 : Int) then bif a6 != (0 : Int) then some true else bif a4 != (2 : Int) then some (a7 != (0 : Int)) else some false else bif a4 != (2 : Int) then some (a7 != (0 : Int)) else some false else bif a4 == (3 : Int) then bif a6 != (0 : Int) then some true else bif a4 != (2 : Int) then some (a7 != (0 : Int)) else some false else bif a4 != (2 : Int) then some (a7 != (0 : Int)) else some false) fun t => bif t then some (3 : Int) else bindC (bif a4 != (1 : Int) then bif decide (a5 < (0 : Int)) then some true else some (decide (a5 ≥ a2)) else some false) fun t => bif t then some (9 : Int) else bindC (bif a4 != (3 : Int) then bif decide (a6 < (0 : Int)) then some true else bif decide (a6 ≥ (↑a3.length : Int)) then some true else bif a4 == (2 : Int) then bif decide (a7 < (0 : Int)) then some true else some (decide (a7 ≥ (↑a3.length : Int))) else some false else bif a4 == (2 : Int) then bif decide (a7 < (0 : Int)) then some true else some (decide (a7 ≥ (↑a3.length : Int))) else some false) fun t => bif t then some (8 : Int) else some (0 : Int)
noncomputable def F (K : Nat) : sig.In → Option (Int) := fun x => f K x.1.1.2.2.1 x.1.1.2.2.2 x.1.2.1 x.1.2.2.1 x.1.2.2.2.1 x.1.2.2.2.2
noncomputable def cv : sig.In → Int → sig.Ou := fun x r => (r, ())
theorem rets (K : Nat) : ∀ x y, withCv (F K) cv x = some y → Rets M 89 sig x y := runF_retsS (C := (C K)) (LP := noLoops) (RF := noRefit) (CP := (CP K)) callsE_ok mxd noRefit_ok (CP_ok K) (noL (by kernel_rfl)) (lb rfl) Tryz.func89 (by kernel_rfl) fun x => by
  rw [withCv_def]
  unfold F f
  try simp only [el]
  kernel_rfl
noncomputable def e (K : Nat) : En M := ⟨89, sig, _, F K, cv, by rfl, Tryz.f89, Tryz.func89, by kernel_rfl, rfl, rets K⟩
end avermentref04_end
namespace avermentref04_Check
noncomputable def sig : Sig := ⟨(.agg (.cons (.ty (.slice yI)) (.cons (.ty (.slice yFunc)) (.ty (.slice yImport))))), [], (.cons (.ty yI) (.ty (.slice yI))), []⟩
noncomputable def C {α : Type} (K : Nat) : CallsBy α := callsE (M := M) [avermentref04_Count.e K, avermentref04_Named.e K, avermentref04_Find.e K, avermentref04_insn.e K, avermentref04_end.e K]
noncomputable def CP {α : Type} (K : Nat) : CutBy α := (cpPut 1 (rpCut M bindC [.bool] [22] (C K) (eqBy M.P)) (cpPut 11 (rpCut M bindC [.bool] [56] (C K) (eqBy M.P)) (cpPut 13 (rpCut M bindC [.bool] [73] (C K) (eqBy M.P)) (cpPut 15 (rpCut M bindC [.bool] [85] (C K) (eqBy M.P)) (cpPut 39 (rpCut M bindC [.bool] [179] (C K) (eqBy M.P)) (cpPut 43 (rpCut M bindC [.bool] [197] (C K) (eqBy M.P)) noCuts))))))
theorem CP_ok {α : Type} (K : Nat) : CutsOk (α := α) M 0 (CP K) := (cpPut_ok (rpCut_ok callsE_ok (eqBy_ok _) mxd) (cpPut_ok (rpCut_ok callsE_ok (eqBy_ok _) mxd) (cpPut_ok (rpCut_ok callsE_ok (eqBy_ok _) mxd) (cpPut_ok (rpCut_ok callsE_ok (eqBy_ok _) mxd) (cpPut_ok (rpCut_ok callsE_ok (eqBy_ok _) mxd) (cpPut_ok (rpCut_ok callsE_ok (eqBy_ok _) mxd) noCuts_ok))))))
noncomputable def l3.h : SSh := ⟨[1, 11], (.cons (.ptr 0 0) (.ty yI)), [.cells 26 0 (.cons (.ty (.slice yI)) (.cons (.ty (.slice yFunc)) (.ty (.slice yImport))))]⟩
noncomputable def l3.x : SSh := ⟨[], .unit, []⟩
noncomputable def l3.r : SSh := ⟨[2, 3], (.cons (.ty yI) (.own 0)), [.list 3 yI []]⟩
noncomputable def l3.cx : l3.h.I → Unit → l3.x.I := fun x r => ((), ())
noncomputable def l3.cr : l3.h.I → (Int × List Int) → l3.r.I := fun x r => ((r.1, ()), (r.2, ()))
noncomputable def l3.f (K : Nat) : Nat → Int → List LFunc → List LImport → Option ((Unit) ⊕ (Int × List Int))
  | 0, _, _, _ => none
  | k + 1, a0, a2, a3 => bif decide (a0 < (↑a3.length : Int)) then bif decide ((0 : Int) ≤ a0) && true then a3[a0.toNat]?.bind fun t => (avermentref04_Named.f K t.1).bind fun t_1 => bif !t_1 then some (Sum.inr ((6 : Int), [IntKind.i64.wrap ((↑a2.length : Int) + a0)])) else bindC (bif decide (a0 > (0 : Int)) then bif decide ((0 : Int) ≤ IntKind.i64.wrap (a0 - (1 : Int))) && true then a3[(IntKind.i64.wrap (a0 - (1 : Int))).toNat]?.bind fun t_2 => some (Op.bytesLess (ByteArray.toList t.1) (ByteArray.toList t_2.1) || ByteArray.toList t.1 == ByteArray.toList t_2.1) else none else some false) fun t_2 => bif t_2 then some (Sum.inr ((3 : Int), [IntKind.i64.wrap ((↑a2.length : Int) + a0)])) else (avermentref04_Find.f K a2 a3 t.1).bind fun t_3 => bif decide (t_3 < (↑a2.length : Int)) then some (Sum.inr ((7 : Int), [IntKind.i64.wrap ((↑a2.length : Int) + a0)])) else bindC (bif decide (t.2 < (0 : Int)) then some true else some (decide (t.2 > (4 : Int)))) fun t => bif t then some (Sum.inr ((10 : Int), [IntKind.i64.wrap ((↑a2.length : Int) + a0)])) else l3.f K k (IntKind.i64.wrap (a0 + (1 : Int))) a2 a3 else none else some (Sum.inl ())
noncomputable def l3.F (K : Nat) (k : Nat) : l3.h.I → Option ((Unit) ⊕ (Int × List Int)) := fun x => l3.f K k x.1.2 x.2.1.2.1 x.2.1.2.2
noncomputable def l3.lp {α : Type} (K : Nat) : St → Kn α → Option α := lpXRD 0 199 6 l3.h l3.x l3.r (l3.F K K) l3.cx l3.cr
theorem l3.ok {α : Type} (K : Nat) : LoopOk (α := α) M 0 (nthLoop Tryz.f35 3) (l3.lp K) := lpXRD_okS (C := (C K)) (LP := noLoops) (RF := noRefit) (CP := (CP K)) (L := 20) callsE_ok mxd noRefit_ok (CP_ok K) (noL (by kernel_rfl)) (lb rfl) (lb rfl) (lb rfl) (fun x => rfl) fun k x => by
  rw [withCv_def]
  unfold l3.F
  rw [l3.f]
  try simp only [el]
  kernel_rfl
noncomputable def l2.h : SSh := ⟨[1, 4, 5, 6, 7, 8], (.cons (.ptr 0 0) (.cons (.ty yI) (.cons (.ptr 1 0) (.cons (.ty yI) (.cons (.ty (.slice yInsn)) (.ty yI)))))), [.cells 26 0 (.cons (.ty (.slice yI)) (.cons (.ty (.slice yFunc)) (.ty (.slice yImport)))), .cells 107 0 (.cons (.ty .str) (.cons (.ty yI) (.cons (.ty yI) (.ty (.slice yBlock)))))]⟩
noncomputable def l2.x : SSh := ⟨[1, 4, 5, 6, 7], (.cons (.ptr 0 0) (.cons (.ty yI) (.cons (.ptr 1 0) (.cons (.ty yI) (.ty (.slice yInsn)))))), [.cells 26 0 (.cons (.ty (.slice yI)) (.cons (.ty (.slice yFunc)) (.ty (.slice yImport)))), .cells 107 0 (.cons (.ty .str) (.cons (.ty yI) (.cons (.ty yI) (.ty (.slice yBlock)))))]⟩
noncomputable def l2.r : SSh := ⟨[2, 3], (.cons (.ty yI) (.own 0)), [.list 3 yI []]⟩
noncomputable def l2.cx : l2.h.I → Unit → l2.x.I := fun x r => (((), (x.1.2.1, ((), (x.1.2.2.2.1, x.1.2.2.2.2.1)))), ((x.2.1.1, (x.2.1.2.1, x.2.1.2.2)), ((x.2.2.1.1, (x.2.2.1.2.1, (x.2.2.1.2.2.1, x.2.2.1.2.2.2))), ())))
noncomputable def l2.cr : l2.h.I → (Int × List Int) → l2.r.I := fun x r => ((r.1, ()), (r.2, ()))
noncomputable def l2.f (K : Nat) : Nat → Int → Int → List LInsn → Int → List Int → List LFunc → List LImport → Int → Option ((Unit) ⊕ (Int × List Int))
  | 0, _, _, _, _, _, _, _, _ => none
  | k + 1, a0, a1, a2, a3, a4, a5, a6, a9 => bif decide (a3 < (↑a2.length : Int)) then bif decide ((0 : Int) ≤ a3) && true then a2[a3.toNat]?.bind fun t => (avermentref04_insn.f K a4 a5 a6 a9 t.1 t.2.1 t.2.2.1 t.2.2.2.1 t.2.2.2.2.1 t.2.2.2.2.2).bind fun t => bif t != (0 : Int) then some (Sum.inr (t, [a0, a1, a3])) else l2.f K k a0 a1 a2 (IntKind.i64.wrap (a3 + (1 : Int))) a4 a5 a6 a9 else none else some (Sum.inl ())
noncomputable def l2.F (K : Nat) (k : Nat) : l2.h.I → Option ((Unit) ⊕ (Int × List Int)) := fun x => l2.f K k x.1.2.1 x.1.2.2.2.1 x.1.2.2.2.2.1 x.1.2.2.2.2.2 x.2.1.1 x.2.1.2.1 x.2.1.2.2 x.2.2.1.2.2.1
noncomputable def l2.lp {α : Type} (K : Nat) : St → Kn α → Option α := lpXRD 0 199 4 l2.h l2.x l2.r (l2.F K K) l2.cx l2.cr
theorem l2.ok {α : Type} (K : Nat) : LoopOk (α := α) M 0 (nthLoop Tryz.f35 2) (l2.lp K) := lpXRD_okS (C := (C K)) (LP := noLoops) (RF := noRefit) (CP := (CP K)) (L := 20) callsE_ok mxd noRefit_ok (CP_ok K) (noL (by kernel_rfl)) (lb rfl) (lb rfl) (lb rfl) (fun x => rfl) fun k x => by
  rw [withCv_def]
  unfold l2.F
  rw [l2.f]
  try simp only [el]
  kernel_rfl
noncomputable def l1.h : SSh := ⟨[1, 4, 5, 6], (.cons (.ptr 0 0) (.cons (.ty yI) (.cons (.ptr 1 0) (.ty yI)))), [.cells 26 0 (.cons (.ty (.slice yI)) (.cons (.ty (.slice yFunc)) (.ty (.slice yImport)))), .cells 107 0 (.cons (.ty .str) (.cons (.ty yI) (.cons (.ty yI) (.ty (.slice yBlock)))))]⟩
noncomputable def l1.x : SSh := ⟨[1, 4], (.cons (.ptr 0 0) (.ty yI)), [.cells 26 0 (.cons (.ty (.slice yI)) (.cons (.ty (.slice yFunc)) (.ty (.slice yImport))))]⟩
noncomputable def l1.r : SSh := ⟨[2, 3], (.cons (.ty yI) (.own 0)), [.list 3 yI []]⟩
noncomputable def l1.cx : l1.h.I → Unit → l1.x.I := fun x r => (((), x.1.2.1), ((x.2.1.1, (x.2.1.2.1, x.2.1.2.2)), ()))
noncomputable def l1.cr : l1.h.I → (Int × List Int) → l1.r.I := fun x r => ((r.1, ()), (r.2, ()))
noncomputable def l1.f (K : Nat) : Nat → Int → Int → List Int → List LFunc → List LImport → Int → List LBlock → Option ((Unit) ⊕ (Int × List Int))
  | 0, _, _, _, _, _, _, _ => none
  | k + 1, a0, a1, a2, a3, a4, a7, a8 => bif decide (a1 < (↑a8.length : Int)) then bif decide ((0 : Int) ≤ a1) && true then a8[a1.toNat]?.bind fun t => bif decide ((↑(List.length t.1) : Int) > (12 : Int)) then some (Sum.inr ((11 : Int), [a0, a1])) else (l2.f K K a0 a1 t.1 (0 : Int) a2 a3 a4 a7).bind fun t_1 => Sum.elim (fun t_2 => bif decide ((0 : Int) ≤ a1) && true then a8[a1.toNat]?.bind fun t_3 => (avermentref04_end.f K a7 a8 t_3.2.1 t_3.2.2.1 t_3.2.2.2.1 t_3.2.2.2.2).bind fun t_4 => bif t_4 != (0 : Int) then some (Sum.inr (t_4, [a0, a1, (↑(List.length t.1) : Int)])) else l1.f K k a0 (IntKind.i64.wrap (a1 + (1 : Int))) a2 a3 a4 a7 a8 else none) (fun t => some (Sum.inr (t.1, t.2))) t_1 else none else some (Sum.inl ())
noncomputable def l1.F (K : Nat) (k : Nat) : l1.h.I → Option ((Unit) ⊕ (Int × List Int)) := fun x => l1.f K k x.1.2.1 x.1.2.2.2 x.2.1.1 x.2.1.2.1 x.2.1.2.2 x.2.2.1.2.2.1 x.2.2.1.2.2.2
noncomputable def l1.lp {α : Type} (K : Nat) : St → Kn α → Option α := lpXRD 0 199 2 l1.h l1.x l1.r (l1.F K K) l1.cx l1.cr
theorem l1.ok {α : Type} (K : Nat) : LoopOk (α := α) M 0 (nthLoop Tryz.f35 1) (l1.lp K) := lpXRD_okS (C := (C K)) (LP := (lpPut 24 (l2.lp K) noLoops)) (RF := noRefit) (CP := (CP K)) (L := 20) callsE_ok mxd noRefit_ok (CP_ok K) (show LoopsOk M 0 (lpPut 24 (l2.lp K) noLoops) (loopsOf (nthLoop Tryz.f35 1)) from (show loopsOf (nthLoop Tryz.f35 1) = [nthLoop Tryz.f35 2] by kernel_rfl) ▸ (loopsOk_put (key := 24) (by kernel_rfl) (l2.ok K) noLoops_ok (by kernel_rfl))) (lb rfl) (lb rfl) (lb rfl) (fun x => rfl) fun k x => by
  rw [withCv_def]
  unfold l1.F
  rw [l1.f]
  try simp only [el]
  kernel_rfl
noncomputable def l0.h : SSh := ⟨[1, 4], (.cons (.ptr 0 0) (.ty yI)), [.cells 26 0 (.cons (.ty (.slice yI)) (.cons (.ty (.slice yFunc)) (.ty (.slice yImport))))]⟩
noncomputable def l0.x : SSh := ⟨[1], (.ptr 0 0), [.cells 26 0 (.cons (.ty (.slice yI)) (.cons (.ty (.slice yFunc)) (.ty (.slice yImport))))]⟩
noncomputable def l0.r : SSh := ⟨[2, 3], (.cons (.ty yI) (.own 0)), [.list 3 yI []]⟩
noncomputable def l0.cx : l0.h.I → Unit → l0.x.I := fun x r => ((), ((x.2.1.1, (x.2.1.2.1, x.2.1.2.2)), ()))
noncomputable def l0.cr : l0.h.I → (Int × List Int) → l0.r.I := fun x r => ((r.1, ()), (r.2, ()))
noncomputable def l0.f (K : Nat) : Nat → Int → List Int → List LFunc → List LImport → Option ((Unit) ⊕ (Int × List Int))
  | 0, _, _, _, _ => none
  | k + 1, a0, a1, a2, a3 => bif decide (a0 < (↑a2.length : Int)) then bif decide ((0 : Int) ≤ a0) && true then a2[a0.toNat]?.bind fun t => (avermentref04_Named.f K t.1).bind fun t_1 => bif !t_1 then some (Sum.inr ((6 : Int), [a0])) else (avermentref04_Find.f K a2 a3 t.1).bind fun t_2 => bif decide (t_2 < a0) then some (Sum.inr ((7 : Int), [a0])) else bindC (bif decide (t.2.1 < (0 : Int)) then some true else some (decide (t.2.1 > (4 : Int)))) fun t_3 => bif t_3 then some (Sum.inr ((10 : Int), [a0])) else bindC (bif decide (t.2.2.1 < (1 : Int)) then some true else bif decide (t.2.2.1 > (8 : Int)) then some true else some (decide (t.2.2.1 < t.2.1))) fun t_4 => bif t_4 then some (Sum.inr ((9 : Int), [a0])) else bindC (bif decide ((↑(List.length t.2.2.2) : Int) < (1 : Int)) then some true else some (decide ((↑(List.length t.2.2.2) : Int) > (12 : Int)))) fun t_5 => bif t_5 then some (Sum.inr ((11 : Int), [a0])) else (l1.f K K a0 (0 : Int) a1 a2 a3 t.2.2.1 t.2.2.2).bind fun t => Sum.elim (fun t => l0.f K k (IntKind.i64.wrap (a0 + (1 : Int))) a1 a2 a3) (fun t => some (Sum.inr (t.1, t.2))) t else none else some (Sum.inl ())
noncomputable def l0.F (K : Nat) (k : Nat) : l0.h.I → Option ((Unit) ⊕ (Int × List Int)) := fun x => l0.f K k x.1.2 x.2.1.1 x.2.1.2.1 x.2.1.2.2
noncomputable def l0.lp {α : Type} (K : Nat) : St → Kn α → Option α := lpXRD 0 199 0 l0.h l0.x l0.r (l0.F K K) l0.cx l0.cr
theorem l0.ok {α : Type} (K : Nat) : LoopOk (α := α) M 0 (nthLoop Tryz.f35 0) (l0.lp K) := lpXRD_okS (C := (C K)) (LP := (lpPut 18 (l1.lp K) (lpPut 24 (l2.lp K) noLoops))) (RF := noRefit) (CP := (CP K)) (L := 20) callsE_ok mxd noRefit_ok (CP_ok K) (show LoopsOk M 0 (lpPut 18 (l1.lp K) (lpPut 24 (l2.lp K) noLoops)) (loopsOf (nthLoop Tryz.f35 0)) from (show loopsOf (nthLoop Tryz.f35 0) = [nthLoop Tryz.f35 1, nthLoop Tryz.f35 2] by kernel_rfl) ▸ (loopsOk_put (key := 18) (by kernel_rfl) (l1.ok K) (loopsOk_put (key := 24) (by kernel_rfl) (l2.ok K) noLoops_ok (by kernel_rfl)) (by kernel_rfl))) (lb rfl) (lb rfl) (lb rfl) (fun x => rfl) fun k x => by
  rw [withCv_def]
  unfold l0.F
  rw [l0.f]
  try simp only [el]
  kernel_rfl
noncomputable def f (K : Nat) (a0 : List Int) (a1 : List LFunc) (a2 : List LImport) : Option (Int × List Int) := bindC (bif decide ((↑a0.length : Int) > (16 : Int)) then some true else (avermentref04_Count.f K a1 a2).bind fun t => some (decide (t > (24 : Int)))) fun t => bif t then some ((11 : Int), []) else (l0.f K K (0 : Int) a0 a1 a2).bind fun t => Sum.elim (fun t => (l3.f K K (0 : Int) a1 a2).bind fun t => Sum.elim (fun t => some ((0 : Int), [])) (fun t => some (t.1, t.2)) t) (fun t => some (t.1, t.2)) t
noncomputable def F (K : Nat) : sig.In → Option (Int × List Int) := fun x => f K x.1.1 x.1.2.1 x.1.2.2
noncomputable def cv : sig.In → (Int × List Int) → sig.Ou := fun x r => ((r.1, r.2), ())
theorem rets (K : Nat) : ∀ x y, withCv (F K) cv x = some y → Rets M 35 sig x y := runF_retsS (C := (C K)) (LP := (lpPut 4 (l0.lp K) (lpPut 18 (l1.lp K) (lpPut 24 (l2.lp K) (lpPut 33 (l3.lp K) noLoops))))) (RF := noRefit) (CP := (CP K)) callsE_ok mxd noRefit_ok (CP_ok K) (show LoopsOk M 0 (lpPut 4 (l0.lp K) (lpPut 18 (l1.lp K) (lpPut 24 (l2.lp K) (lpPut 33 (l3.lp K) noLoops)))) (loopsOf (bodyOf Tryz.f35)) from (show loopsOf (bodyOf Tryz.f35) = [nthLoop Tryz.f35 0, nthLoop Tryz.f35 1, nthLoop Tryz.f35 2, nthLoop Tryz.f35 3] by kernel_rfl) ▸ (loopsOk_put (key := 4) (by kernel_rfl) (l0.ok K) (loopsOk_put (key := 18) (by kernel_rfl) (l1.ok K) (loopsOk_put (key := 24) (by kernel_rfl) (l2.ok K) (loopsOk_put (key := 33) (by kernel_rfl) (l3.ok K) noLoops_ok (by kernel_rfl)) (by kernel_rfl)) (by kernel_rfl)) (by kernel_rfl))) (lb rfl) Tryz.func35 (by kernel_rfl) fun x => by
  rw [withCv_def]
  unfold F f
  try simp only [el]
  kernel_rfl
noncomputable def e (K : Nat) : En M := ⟨35, sig, _, F K, cv, by rfl, Tryz.f35, Tryz.func35, by kernel_rfl, rfl, rets K⟩
end avermentref04_Check
namespace avermentref07_Right
noncomputable def sig : Sig := ⟨(.cons (.agg (.cons (.ty (.slice yI)) (.cons (.ty (.slice yFunc)) (.ty (.slice yImport))))) (.cons (.ty yI) (.ty (.slice yI)))), [], (.ty yI), []⟩
noncomputable def C {α : Type} (K : Nat) : CallsBy α := callsE (M := M) []
noncomputable def CP {α : Type} (K : Nat) : CutBy α := (cpPut 3 (rpCut M bindC [.bool] [19] (C K) (eqBy M.P)) noCuts)
theorem CP_ok {α : Type} (K : Nat) : CutsOk (α := α) M 0 (CP K) := (cpPut_ok (rpCut_ok callsE_ok (eqBy_ok _) mxd) noCuts_ok)
noncomputable def f (K : Nat) (a1 : List LFunc) (a2 : List LImport) (a3 : Int) (a4 : List Int) : Option (Int) := bif decide ((↑a2.length : Int) > (0 : Int)) then some (16 : Int) else bindC (bif decide (a3 < (0 : Int)) then some true else some (decide (a3 ≥ (↑a1.length : Int)))) fun t => bif t then some (7 : Int) else bif decide ((0 : Int) ≤ a3) && true then a1[a3.toNat]?.bind fun t => bif (↑a4.length : Int) != t.2.1 then some (10 : Int) else some (0 : Int) else none
noncomputable def F (K : Nat) : sig.In → Option (Int) := fun x => f K x.1.1.2.1 x.1.1.2.2 x.1.2.1 x.1.2.2
noncomputable def cv : sig.In → Int → sig.Ou := fun x r => (r, ())
theorem rets (K : Nat) : ∀ x y, withCv (F K) cv x = some y → Rets M 36 sig x y := runF_retsS (C := (C K)) (LP := noLoops) (RF := noRefit) (CP := (CP K)) callsE_ok mxd noRefit_ok (CP_ok K) (noL (by kernel_rfl)) (lb rfl) Tryz.func36 (by kernel_rfl) fun x => by
  rw [withCv_def]
  unfold F f
  try simp only [el]
  kernel_rfl
noncomputable def e (K : Nat) : En M := ⟨36, sig, _, F K, cv, by rfl, Tryz.f36, Tryz.func36, by kernel_rfl, rfl, rets K⟩
end avermentref07_Right
namespace avermentlaw07_Ready
noncomputable def sig : Sig := ⟨(.agg (.cons (.ty (.slice yI)) (.cons (.ty (.slice yFunc)) (.cons (.ty (.slice yImport)) (.cons (.ty yI) (.cons (.ty (.slice yI)) (.ty (.slice yI)))))))), [], (.ty .bool), []⟩
noncomputable def C {α : Type} (K : Nat) : CallsBy α := callsE (M := M) [avermentref04_Check.e K, avermentref07_Right.e K]
noncomputable def CP {α : Type} (K : Nat) : CutBy α := (cpPut 2 (rpCut M bindC [.bool] [2] (C K) (eqBy M.P)) noCuts)
theorem CP_ok {α : Type} (K : Nat) : CutsOk (α := α) M 0 (CP K) := (cpPut_ok (rpCut_ok callsE_ok (eqBy_ok _) mxd) noCuts_ok)
noncomputable def f (K : Nat) (a0 : List Int) (a1 : List LFunc) (a2 : List LImport) (a3 : Int) (a4 : List Int) : Option (Bool) := (avermentref04_Check.f K a0 a1 a2).bind fun t => bindC (bif t.1 == (0 : Int) then (avermentref07_Right.f K a1 a2 a3 a4).bind fun t => some (t == (0 : Int)) else some false) fun t => some t
noncomputable def F (K : Nat) : sig.In → Option (Bool) := fun x => f K x.1.1 x.1.2.1 x.1.2.2.1 x.1.2.2.2.1 x.1.2.2.2.2.1
noncomputable def cv : sig.In → Bool → sig.Ou := fun x r => (r, ())
theorem rets (K : Nat) : ∀ x y, withCv (F K) cv x = some y → Rets M 7 sig x y := runF_retsS (C := (C K)) (LP := noLoops) (RF := noRefit) (CP := (CP K)) callsE_ok mxd noRefit_ok (CP_ok K) (noL (by kernel_rfl)) (lb rfl) Tryz.func7 (by kernel_rfl) fun x => by
  rw [withCv_def]
  unfold F f
  try simp only [el]
  kernel_rfl
noncomputable def e (K : Nat) : En M := ⟨7, sig, _, F K, cv, by rfl, Tryz.f7, Tryz.func7, by kernel_rfl, rfl, rets K⟩
end avermentlaw07_Ready
namespace known_Any
noncomputable def sig : Sig := ⟨.unit, [], (.agg (.cons (.ty .bool) (.ty yI))), []⟩
noncomputable def C {α : Type} (K : Nat) : CallsBy α := callsE (M := M) []
noncomputable def f (K : Nat) : Option (Bool × Int) := some (false, (0 : Int))
noncomputable def F (K : Nat) : sig.In → Option (Bool × Int) := fun x => f K
noncomputable def cv : sig.In → (Bool × Int) → sig.Ou := fun x r => ((r.1, r.2), ())
theorem rets (K : Nat) : ∀ x y, withCv (F K) cv x = some y → Rets M 112 sig x y := runF_retsS (C := (C K)) (LP := noLoops) (RF := noRefit) (CP := noCuts) callsE_ok mxd noRefit_ok noCuts_ok (noL (by kernel_rfl)) (lb rfl) Tryz.func112 (by kernel_rfl) fun x => by
  rw [withCv_def]
  unfold F f
  try simp only [el]
  kernel_rfl
noncomputable def e (K : Nat) : En M := ⟨112, sig, _, F K, cv, by rfl, Tryz.f112, Tryz.func112, by kernel_rfl, rfl, rets K⟩
end known_Any
namespace span_Any
noncomputable def sig : Sig := ⟨.unit, [], (.agg (.cons (.ty yI) (.ty yI))), []⟩
noncomputable def C {α : Type} (K : Nat) : CallsBy α := callsE (M := M) []
noncomputable def f (K : Nat) : Option (Int × Int) := some ((-9223372036854775808 : Int), (9223372036854775807 : Int))
noncomputable def F (K : Nat) : sig.In → Option (Int × Int) := fun x => f K
noncomputable def cv : sig.In → (Int × Int) → sig.Ou := fun x r => ((r.1, r.2), ())
theorem rets (K : Nat) : ∀ x y, withCv (F K) cv x = some y → Rets M 113 sig x y := runF_retsS (C := (C K)) (LP := noLoops) (RF := noRefit) (CP := noCuts) callsE_ok mxd noRefit_ok noCuts_ok (noL (by kernel_rfl)) (lb rfl) Tryz.func113 (by kernel_rfl) fun x => by
  rw [withCv_def]
  unfold F f
  try simp only [el]
  kernel_rfl
noncomputable def e (K : Nat) : En M := ⟨113, sig, _, F K, cv, by rfl, Tryz.f113, Tryz.func113, by kernel_rfl, rfl, rets K⟩
end span_Any
namespace fact_Any
noncomputable def sig : Sig := ⟨.unit, [], (.agg (.cons (.ty yI) (.cons (.ty .bool) (.cons (.ty yI) (.cons (.ty yI) (.cons (.ty yI) (.ty yI))))))), []⟩
noncomputable def C {α : Type} (K : Nat) : CallsBy α := callsE (M := M) [known_Any.e K, span_Any.e K]
noncomputable def f (K : Nat) : Option (Int × Bool × Int × Int × Int × Int) := (known_Any.f K).bind fun t => (span_Any.f K).bind fun t_1 => some ((7 : Int), t.1, t.2, t_1.1, t_1.2, (3 : Int))
noncomputable def F (K : Nat) : sig.In → Option (Int × Bool × Int × Int × Int × Int) := fun x => f K
noncomputable def cv : sig.In → (Int × Bool × Int × Int × Int × Int) → sig.Ou := fun x r => ((r.1, (r.2.1, (r.2.2.1, (r.2.2.2.1, (r.2.2.2.2.1, r.2.2.2.2.2))))), ())
theorem rets (K : Nat) : ∀ x y, withCv (F K) cv x = some y → Rets M 59 sig x y := runF_retsS (C := (C K)) (LP := noLoops) (RF := noRefit) (CP := noCuts) callsE_ok mxd noRefit_ok noCuts_ok (noL (by kernel_rfl)) (lb rfl) Tryz.func59 (by kernel_rfl) fun x => by
  rw [withCv_def]
  unfold F f
  try simp only [el]
  kernel_rfl
noncomputable def e (K : Nat) : En M := ⟨59, sig, _, F K, cv, by rfl, Tryz.f59, Tryz.func59, by kernel_rfl, rfl, rets K⟩
end fact_Any
namespace avermenttop_anyEnv
noncomputable def sig : Sig := ⟨(.agg (.cons (.ty (.slice yI)) (.cons (.ty (.slice yFunc)) (.ty (.slice yImport))))), [], (.agg (.cons (.ty (.slice yI)) (.cons (.ty (.slice yFunc)) (.cons (.ty (.slice yImport)) (.cons (.ty (.slice yValue)) (.ty (.slice ySum))))))), []⟩
noncomputable def C {α : Type} (K : Nat) : CallsBy α := callsE (M := M) [fact_Any.e K, ir_Arity.e K]
noncomputable def RF : RefitBy := (rfPut 0 56 14 ⟨[1, 2, 3, 5, 6], (.cons (.ptr 0 0) (.cons (.ptr 1 0) (.cons (.ptr 2 0) (.cons (.ty yI) (.ptr 3 0))))), [.cells 35 0 (.cons (.ty (.slice yI)) (.cons (.ty (.slice yFunc)) (.ty (.slice yImport)))), .cells 61 0 (.cons (.own 4) (.cons (.own 5) (.cons (.own 6) (.cons (.own 7) (.own 8))))), .cells 61 0 (.cons (.ty (.slice yI)) (.cons (.ty (.slice yFunc)) (.cons (.ty (.slice yImport)) (.cons (.own 9) (.own 10))))), .cells 147 0 (.cons (.ty .bool) (.cons (.ty (.slice yValue)) (.cons (.ty .bool) (.cons (.ty yI) (.cons (.ty .bool) (.cons (.ty yI) (.cons (.ty yI) (.cons (.ty yI) (.ty yI))))))))), .list 2 yI [], .list 47 yFunc [], .list 110 yImport [], .list 68 yValue [], .list 147 ySum [], .list 68 yValue [], .list 147 ySum []]⟩ noRefit)
noncomputable def l2.h : SSh := ⟨[1, 2, 3, 5, 6, 7], (.cons (.ptr 0 0) (.cons (.ptr 1 0) (.cons (.ptr 2 0) (.cons (.ty yI) (.cons (.ptr 3 0) (.ty yI)))))), [.cells 35 0 (.cons (.ty (.slice yI)) (.cons (.ty (.slice yFunc)) (.ty (.slice yImport)))), .cells 61 0 (.cons (.own 4) (.cons (.own 5) (.cons (.own 6) (.cons (.own 7) (.own 8))))), .cells 61 0 (.cons (.ty (.slice yI)) (.cons (.ty (.slice yFunc)) (.cons (.ty (.slice yImport)) (.cons (.own 9) (.own 10))))), .cells 147 0 (.cons (.ty .bool) (.cons (.own 11) (.cons (.ty .bool) (.cons (.ty yI) (.cons (.ty .bool) (.cons (.ty yI) (.cons (.ty yI) (.cons (.ty yI) (.ty yI))))))))), .list 2 yI [], .list 47 yFunc [], .list 110 yImport [], .list 68 yValue [], .list 147 ySum [], .list 68 yValue [], .list 147 ySum [], .list 68 yValue []]⟩
noncomputable def l2.x : SSh := ⟨[1, 2, 3, 5, 6], (.cons (.ptr 0 0) (.cons (.ptr 1 0) (.cons (.ptr 2 0) (.cons (.ty yI) (.ptr 3 0))))), [.cells 35 0 (.cons (.ty (.slice yI)) (.cons (.ty (.slice yFunc)) (.ty (.slice yImport)))), .cells 61 0 (.cons (.own 4) (.cons (.own 5) (.cons (.own 6) (.cons (.own 7) (.own 8))))), .cells 61 0 (.cons (.ty (.slice yI)) (.cons (.ty (.slice yFunc)) (.cons (.ty (.slice yImport)) (.cons (.own 9) (.own 10))))), .cells 147 0 (.cons (.ty .bool) (.cons (.own 11) (.cons (.ty .bool) (.cons (.ty yI) (.cons (.ty .bool) (.cons (.ty yI) (.cons (.ty yI) (.cons (.ty yI) (.ty yI))))))))), .list 2 yI [], .list 47 yFunc [], .list 110 yImport [], .list 68 yValue [], .list 147 ySum [], .list 68 yValue [], .list 147 ySum [], .list 68 yValue []]⟩
noncomputable def l2.cx : l2.h.I → (List LValue) → l2.x.I := fun x r => (((), ((), ((), (x.1.2.2.2.1, ())))), ((x.2.1.1, (x.2.1.2.1, x.2.1.2.2)), (((), ((), ((), ((), ())))), ((x.2.2.2.1.1, (x.2.2.2.1.2.1, (x.2.2.2.1.2.2.1, ((), ())))), ((x.2.2.2.2.1.1, ((), (x.2.2.2.2.1.2.2.1, (x.2.2.2.2.1.2.2.2.1, (x.2.2.2.2.1.2.2.2.2.1, (x.2.2.2.2.1.2.2.2.2.2.1, (x.2.2.2.2.1.2.2.2.2.2.2.1, (x.2.2.2.2.1.2.2.2.2.2.2.2.1, x.2.2.2.2.1.2.2.2.2.2.2.2.2)))))))), (x.2.2.2.2.2.1, (x.2.2.2.2.2.2.1, (x.2.2.2.2.2.2.2.1, (x.2.2.2.2.2.2.2.2.1, (x.2.2.2.2.2.2.2.2.2.1, (x.2.2.2.2.2.2.2.2.2.2.1, (x.2.2.2.2.2.2.2.2.2.2.2.1, (r, ())))))))))))))
noncomputable def l2.f (K : Nat) : Nat → Int → Int → List LFunc → List LImport → List LValue → Option (List LValue)
  | 0, _, _, _, _, _ => none
  | k + 1, a0, a1, a3, a4, a23 => (ir_Arity.f K a3 a4 a0).bind fun t => bif decide (a1 < t) then (fact_Any.f K).bind fun t => bif (a23.length + [(t.1, (t.2.1, t.2.2.1), (t.2.2.2.1, t.2.2.2.2.1), t.2.2.2.2.2)].length).ble (100000 : Nat) then l2.f K k a0 (IntKind.i64.wrap (a1 + (1 : Int))) a3 a4 (a23 ++ [(t.1, (t.2.1, t.2.2.1), (t.2.2.2.1, t.2.2.2.2.1), t.2.2.2.2.2)]) else none else some a23
noncomputable def l2.F (K : Nat) (k : Nat) : l2.h.I → Option (List LValue) := fun (x : ((Unit × (Unit × (Unit × (Int × (Unit × Int))))) × (((List Int) × ((List LFunc) × (List LImport))) × ((Unit × (Unit × (Unit × (Unit × Unit)))) × (((List Int) × ((List LFunc) × ((List LImport) × (Unit × Unit)))) × ((Bool × (Unit × (Bool × (Int × (Bool × (Int × (Int × (Int × Int)))))))) × ((List Int) × ((List LFunc) × ((List LImport) × ((List LValue) × ((List LSum) × ((List LValue) × ((List LSum) × ((List LValue) × Unit)))))))))))))) => l2.f K k x.1.2.2.2.1 x.1.2.2.2.2.2 x.2.1.2.1 x.2.1.2.2 x.2.2.2.2.2.2.2.2.2.2.2.2.1
noncomputable def l2.lp {α : Type} (K : Nat) : St → Kn α → Option α := lpX 0 56 4 l2.h l2.x (l2.F K K) l2.cx
theorem l2.ok {α : Type} (K : Nat) : LoopOk (α := α) M 0 (nthLoop Tryz.f21 2) (l2.lp K) := lpX_okS (C := (C K)) (LP := noLoops) (RF := RF) (CP := noCuts) (L := 20) callsE_ok mxd (show RefitOk M 0 RF from (rfPut_ok (lb rfl) noRefit_ok)) noCuts_ok (noL (by kernel_rfl)) (lb rfl) (lb rfl) (fun x => rfl) fun k (x : ((Unit × (Unit × (Unit × (Int × (Unit × Int))))) × (((List Int) × ((List LFunc) × (List LImport))) × ((Unit × (Unit × (Unit × (Unit × Unit)))) × (((List Int) × ((List LFunc) × ((List LImport) × (Unit × Unit)))) × ((Bool × (Unit × (Bool × (Int × (Bool × (Int × (Int × (Int × Int)))))))) × ((List Int) × ((List LFunc) × ((List LImport) × ((List LValue) × ((List LSum) × ((List LValue) × ((List LSum) × ((List LValue) × Unit)))))))))))))) => by
  refine Eq.trans ?_ withCv_def.symm
  unfold l2.F
  rw [l2.f]
  try simp only [el]
  kernel_rfl
noncomputable def l1.h : SSh := ⟨[1, 2, 3, 5], (.cons (.ptr 0 0) (.cons (.ptr 1 0) (.cons (.ptr 2 0) (.ty yI)))), [.cells 35 0 (.cons (.ty (.slice yI)) (.cons (.ty (.slice yFunc)) (.ty (.slice yImport)))), .cells 61 0 (.cons (.own 3) (.cons (.own 4) (.cons (.own 5) (.cons (.own 6) (.own 7))))), .cells 61 0 (.cons (.ty (.slice yI)) (.cons (.ty (.slice yFunc)) (.cons (.ty (.slice yImport)) (.cons (.own 8) (.own 9))))), .list 2 yI [], .list 47 yFunc [], .list 110 yImport [], .list 68 yValue [], .list 147 ySum [], .list 68 yValue [], .list 147 ySum []]⟩
noncomputable def l1.x : SSh := ⟨[2, 3], (.cons (.ptr 0 0) (.ptr 1 0)), [.cells 61 0 (.cons (.own 2) (.cons (.own 3) (.cons (.own 4) (.cons (.own 5) (.own 6))))), .cells 61 0 (.cons (.ty (.slice yI)) (.cons (.ty (.slice yFunc)) (.cons (.ty (.slice yImport)) (.cons (.own 7) (.own 8))))), .list 2 yI [], .list 47 yFunc [], .list 110 yImport [], .list 68 yValue [], .list 147 ySum [], .list 68 yValue [], .list 147 ySum []]⟩
noncomputable def l1.cx : l1.h.I → (List LSum) → l1.x.I := fun x r => (((), ()), (((), ((), ((), ((), ())))), ((x.2.2.2.1.1, (x.2.2.2.1.2.1, (x.2.2.2.1.2.2.1, ((), ())))), (x.2.2.2.2.1, (x.2.2.2.2.2.1, (x.2.2.2.2.2.2.1, (x.2.2.2.2.2.2.2.1, (x.2.2.2.2.2.2.2.2.1, (x.2.2.2.2.2.2.2.2.2.1, (r, ()))))))))))
noncomputable def l1.f (K : Nat) : Nat → Int → List LFunc → List LImport → List LSum → Option (List LSum)
  | 0, _, _, _, _ => none
  | k + 1, a0, a2, a3, a13 => bif decide (a0 < IntKind.i64.wrap ((↑a2.length : Int) + (↑a3.length : Int))) then (fact_Any.f K).bind fun t => (l2.f K K a0 (0 : Int) a2 a3 []).bind fun t_1 => bif (a13.length + [(true, t_1, true, t.1, (t.2.1, t.2.2.1), (t.2.2.2.1, t.2.2.2.2.1), t.2.2.2.2.2)].length).ble (100000 : Nat) then l1.f K k (IntKind.i64.wrap (a0 + (1 : Int))) a2 a3 (a13 ++ [(true, t_1, true, t.1, (t.2.1, t.2.2.1), (t.2.2.2.1, t.2.2.2.2.1), t.2.2.2.2.2)]) else none else some a13
noncomputable def l1.F (K : Nat) (k : Nat) : l1.h.I → Option (List LSum) := fun x => l1.f K k x.1.2.2.2 x.2.1.2.1 x.2.1.2.2 x.2.2.2.2.2.2.2.2.2.2.1
noncomputable def l1.lp {α : Type} (K : Nat) : St → Kn α → Option α := lpX 0 56 2 l1.h l1.x (l1.F K K) l1.cx
theorem l1.ok {α : Type} (K : Nat) : LoopOk (α := α) M 0 (nthLoop Tryz.f21 1) (l1.lp K) := lpX_okS (C := (C K)) (LP := (lpPut 11 (l2.lp K) noLoops)) (RF := RF) (CP := noCuts) (L := 20) callsE_ok mxd (show RefitOk M 0 RF from (rfPut_ok (lb rfl) noRefit_ok)) noCuts_ok (show LoopsOk M 0 (lpPut 11 (l2.lp K) noLoops) (loopsOf (nthLoop Tryz.f21 1)) from (show loopsOf (nthLoop Tryz.f21 1) = [nthLoop Tryz.f21 2] by kernel_rfl) ▸ (loopsOk_put (key := 11) (by kernel_rfl) (l2.ok K) noLoops_ok (by kernel_rfl))) (lb rfl) (lb rfl) (fun x => rfl) fun k x => by
  rw [withCv_def]
  unfold l1.F
  rw [l1.f]
  try simp only [el]
  kernel_rfl
noncomputable def l0.h : SSh := ⟨[1, 2, 3, 4], (.cons (.ptr 0 0) (.cons (.ptr 1 0) (.cons (.ptr 2 0) (.ty yI)))), [.cells 35 0 (.cons (.ty (.slice yI)) (.cons (.ty (.slice yFunc)) (.ty (.slice yImport)))), .cells 61 0 (.cons (.own 3) (.cons (.own 4) (.cons (.own 5) (.cons (.own 6) (.own 7))))), .cells 61 0 (.cons (.ty (.slice yI)) (.cons (.ty (.slice yFunc)) (.cons (.ty (.slice yImport)) (.cons (.own 8) (.own 9))))), .list 2 yI [], .list 47 yFunc [], .list 110 yImport [], .list 68 yValue [], .list 147 ySum [], .list 68 yValue [], .list 147 ySum []]⟩
noncomputable def l0.x : SSh := ⟨[1, 2, 3], (.cons (.ptr 0 0) (.cons (.ptr 1 0) (.ptr 2 0))), [.cells 35 0 (.cons (.ty (.slice yI)) (.cons (.ty (.slice yFunc)) (.ty (.slice yImport)))), .cells 61 0 (.cons (.own 3) (.cons (.own 4) (.cons (.own 5) (.cons (.own 6) (.own 7))))), .cells 61 0 (.cons (.ty (.slice yI)) (.cons (.ty (.slice yFunc)) (.cons (.ty (.slice yImport)) (.cons (.own 8) (.own 9))))), .list 2 yI [], .list 47 yFunc [], .list 110 yImport [], .list 68 yValue [], .list 147 ySum [], .list 68 yValue [], .list 147 ySum []]⟩
noncomputable def l0.cx : l0.h.I → (List LValue) → l0.x.I := fun x r => (((), ((), ())), ((x.2.1.1, (x.2.1.2.1, x.2.1.2.2)), (((), ((), ((), ((), ())))), ((x.2.2.2.1.1, (x.2.2.2.1.2.1, (x.2.2.2.1.2.2.1, ((), ())))), (x.2.2.2.2.1, (x.2.2.2.2.2.1, (x.2.2.2.2.2.2.1, (x.2.2.2.2.2.2.2.1, (x.2.2.2.2.2.2.2.2.1, (r, (x.2.2.2.2.2.2.2.2.2.2.1, ())))))))))))
noncomputable def l0.f (K : Nat) : Nat → Int → List Int → List LValue → Option (List LValue)
  | 0, _, _, _ => none
  | k + 1, a0, a1, a12 => bif decide (a0 < (↑a1.length : Int)) then (fact_Any.f K).bind fun t => bif (a12.length + [(t.1, (t.2.1, t.2.2.1), (t.2.2.2.1, t.2.2.2.2.1), t.2.2.2.2.2)].length).ble (100000 : Nat) then l0.f K k (IntKind.i64.wrap (a0 + (1 : Int))) a1 (a12 ++ [(t.1, (t.2.1, t.2.2.1), (t.2.2.2.1, t.2.2.2.2.1), t.2.2.2.2.2)]) else none else some a12
noncomputable def l0.F (K : Nat) (k : Nat) : l0.h.I → Option (List LValue) := fun x => l0.f K k x.1.2.2.2 x.2.1.1 x.2.2.2.2.2.2.2.2.2.1
noncomputable def l0.lp {α : Type} (K : Nat) : St → Kn α → Option α := lpX 0 56 0 l0.h l0.x (l0.F K K) l0.cx
theorem l0.ok {α : Type} (K : Nat) : LoopOk (α := α) M 0 (nthLoop Tryz.f21 0) (l0.lp K) := lpX_okS (C := (C K)) (LP := noLoops) (RF := RF) (CP := noCuts) (L := 20) callsE_ok mxd (show RefitOk M 0 RF from (rfPut_ok (lb rfl) noRefit_ok)) noCuts_ok (noL (by kernel_rfl)) (lb rfl) (lb rfl) (fun x => rfl) fun k x => by
  rw [withCv_def]
  unfold l0.F
  rw [l0.f]
  try simp only [el]
  kernel_rfl
noncomputable def f (K : Nat) (a0 : List Int) (a1 : List LFunc) (a2 : List LImport) : Option (List LValue × List LSum) := (l0.f K K (0 : Int) a0 []).bind fun t => (l1.f K K (0 : Int) a1 a2 []).bind fun t_1 => some (t, t_1)
noncomputable def F (K : Nat) : sig.In → Option (List LValue × List LSum) := fun x => f K x.1.1 x.1.2.1 x.1.2.2
noncomputable def cv : sig.In → (List LValue × List LSum) → sig.Ou := fun x r => ((x.1.1, (x.1.2.1, (x.1.2.2, (r.1, r.2)))), ())
theorem rets (K : Nat) : ∀ x y, withCv (F K) cv x = some y → Rets M 21 sig x y := runF_retsS (C := (C K)) (LP := (lpPut 3 (l0.lp K) (lpPut 7 (l1.lp K) (lpPut 11 (l2.lp K) noLoops)))) (RF := RF) (CP := noCuts) callsE_ok mxd (show RefitOk M 0 RF from (rfPut_ok (lb rfl) noRefit_ok)) noCuts_ok (show LoopsOk M 0 (lpPut 3 (l0.lp K) (lpPut 7 (l1.lp K) (lpPut 11 (l2.lp K) noLoops))) (loopsOf (bodyOf Tryz.f21)) from (show loopsOf (bodyOf Tryz.f21) = [nthLoop Tryz.f21 0, nthLoop Tryz.f21 1, nthLoop Tryz.f21 2] by kernel_rfl) ▸ (loopsOk_put (key := 3) (by kernel_rfl) (l0.ok K) (loopsOk_put (key := 7) (by kernel_rfl) (l1.ok K) (loopsOk_put (key := 11) (by kernel_rfl) (l2.ok K) noLoops_ok (by kernel_rfl)) (by kernel_rfl)) (by kernel_rfl))) (lb rfl) Tryz.func21 (by kernel_rfl) fun x => by
  rw [withCv_def]
  unfold F f
  try simp only [el]
  kernel_rfl
noncomputable def e (K : Nat) : En M := ⟨21, sig, _, F K, cv, by rfl, Tryz.f21, Tryz.func21, by kernel_rfl, rfl, rets K⟩
end avermenttop_anyEnv
namespace sign_Of
noncomputable def sig : Sig := ⟨(.ty yI), [], (.ty yI), []⟩
noncomputable def C {α : Type} (K : Nat) : CallsBy α := callsE (M := M) []
noncomputable def f (K : Nat) (a0 : Int) : Option (Int) := bif decide (a0 < (0 : Int)) then some (1 : Int) else bif a0 == (0 : Int) then some (2 : Int) else some (4 : Int)
noncomputable def F (K : Nat) : sig.In → Option (Int) := fun x => f K x.1
noncomputable def cv : sig.In → Int → sig.Ou := fun x r => (r, ())
theorem rets (K : Nat) : ∀ x y, withCv (F K) cv x = some y → Rets M 61 sig x y := runF_retsS (C := (C K)) (LP := noLoops) (RF := noRefit) (CP := noCuts) callsE_ok mxd noRefit_ok noCuts_ok (noL (by kernel_rfl)) (lb rfl) Tryz.func61 (by kernel_rfl) fun x => by
  rw [withCv_def]
  unfold F f
  try simp only [el]
  kernel_rfl
noncomputable def e (K : Nat) : En M := ⟨61, sig, _, F K, cv, by rfl, Tryz.f61, Tryz.func61, by kernel_rfl, rfl, rets K⟩
end sign_Of
namespace known_Of
noncomputable def sig : Sig := ⟨(.ty yI), [], (.agg (.cons (.ty .bool) (.ty yI))), []⟩
noncomputable def C {α : Type} (K : Nat) : CallsBy α := callsE (M := M) []
noncomputable def f (K : Nat) : Option (Bool) := some true
noncomputable def F (K : Nat) : sig.In → Option (Bool) := fun x => f K
noncomputable def cv : sig.In → Bool → sig.Ou := fun x r => ((r, x.1), ())
theorem rets (K : Nat) : ∀ x y, withCv (F K) cv x = some y → Rets M 62 sig x y := runF_retsS (C := (C K)) (LP := noLoops) (RF := noRefit) (CP := noCuts) callsE_ok mxd noRefit_ok noCuts_ok (noL (by kernel_rfl)) (lb rfl) Tryz.func62 (by kernel_rfl) fun x => by
  rw [withCv_def]
  unfold F f
  try simp only [el]
  kernel_rfl
noncomputable def e (K : Nat) : En M := ⟨62, sig, _, F K, cv, by rfl, Tryz.f62, Tryz.func62, by kernel_rfl, rfl, rets K⟩
end known_Of
namespace span_Of
noncomputable def sig : Sig := ⟨(.ty yI), [], (.agg (.cons (.ty yI) (.ty yI))), []⟩
noncomputable def C {α : Type} (K : Nat) : CallsBy α := callsE (M := M) []
noncomputable def f (K : Nat) : Option (Unit) := some ()
noncomputable def F (K : Nat) : sig.In → Option (Unit) := fun x => f K
noncomputable def cv : sig.In → Unit → sig.Ou := fun x r => ((x.1, x.1), ())
theorem rets (K : Nat) : ∀ x y, withCv (F K) cv x = some y → Rets M 63 sig x y := runF_retsS (C := (C K)) (LP := noLoops) (RF := noRefit) (CP := noCuts) callsE_ok mxd noRefit_ok noCuts_ok (noL (by kernel_rfl)) (lb rfl) Tryz.func63 (by kernel_rfl) fun x => by
  rw [withCv_def]
  unfold F f
  try simp only [el]
  kernel_rfl
noncomputable def e (K : Nat) : En M := ⟨63, sig, _, F K, cv, by rfl, Tryz.f63, Tryz.func63, by kernel_rfl, rfl, rets K⟩
end span_Of
namespace parity_Of
noncomputable def sig : Sig := ⟨(.ty yI), [], (.ty yI), []⟩
noncomputable def C {α : Type} (K : Nat) : CallsBy α := callsE (M := M) []
noncomputable def f (K : Nat) (a0 : Int) : Option (Int) := bif decide (IntKind.i64.wrap (↑(BitVec.ofInt (64 : Nat) a0 &&& BitVec.ofInt (64 : Nat) (1 : Int)).toNat : Int) < (0 : Int)) then none else some (IntKind.i64.wrap ((1 : Int) * (2 : Int) ^ min (IntKind.i64.wrap (↑(BitVec.ofInt (64 : Nat) a0 &&& BitVec.ofInt (64 : Nat) (1 : Int)).toNat : Int)).toNat (64 : Nat)))
noncomputable def F (K : Nat) : sig.In → Option (Int) := fun x => f K x.1
noncomputable def cv : sig.In → Int → sig.Ou := fun x r => (r, ())
theorem rets (K : Nat) : ∀ x y, withCv (F K) cv x = some y → Rets M 64 sig x y := runF_retsS (C := (C K)) (LP := noLoops) (RF := noRefit) (CP := noCuts) callsE_ok mxd noRefit_ok noCuts_ok (noL (by kernel_rfl)) (lb rfl) Tryz.func64 (by kernel_rfl) fun x => by
  rw [withCv_def]
  unfold F f
  try simp only [el]
  kernel_rfl
noncomputable def e (K : Nat) : En M := ⟨64, sig, _, F K, cv, by rfl, Tryz.f64, Tryz.func64, by kernel_rfl, rfl, rets K⟩
end parity_Of
namespace fact_Of
noncomputable def sig : Sig := ⟨(.ty yI), [], (.agg (.cons (.ty yI) (.cons (.ty .bool) (.cons (.ty yI) (.cons (.ty yI) (.cons (.ty yI) (.ty yI))))))), []⟩
noncomputable def C {α : Type} (K : Nat) : CallsBy α := callsE (M := M) [sign_Of.e K, known_Of.e K, span_Of.e K, parity_Of.e K]
noncomputable def f (K : Nat) (a0 : Int) : Option (Int × Bool × Int) := (sign_Of.f K a0).bind fun t => (known_Of.f K).bind fun t_1 => (span_Of.f K).bind fun t_2 => (parity_Of.f K a0).bind fun t_3 => some (t, t_1, t_3)
noncomputable def F (K : Nat) : sig.In → Option (Int × Bool × Int) := fun x => f K x.1
noncomputable def cv : sig.In → (Int × Bool × Int) → sig.Ou := fun x r => ((r.1, (r.2.1, (x.1, (x.1, (x.1, r.2.2))))), ())
theorem rets (K : Nat) : ∀ x y, withCv (F K) cv x = some y → Rets M 22 sig x y := runF_retsS (C := (C K)) (LP := noLoops) (RF := noRefit) (CP := noCuts) callsE_ok mxd noRefit_ok noCuts_ok (noL (by kernel_rfl)) (lb rfl) Tryz.func22 (by kernel_rfl) fun x => by
  rw [withCv_def]
  unfold F f
  try simp only [el]
  kernel_rfl
noncomputable def e (K : Nat) : En M := ⟨22, sig, _, F K, cv, by rfl, Tryz.f22, Tryz.func22, by kernel_rfl, rfl, rets K⟩
end fact_Of
namespace avermentref09_Clean
noncomputable def sig : Sig := ⟨(.agg (.cons (.ty .bool) (.ty yI))), [], (.agg (.cons (.ty .bool) (.ty yI))), []⟩
noncomputable def C {α : Type} (K : Nat) : CallsBy α := callsE (M := M) []
noncomputable def f (K : Nat) (a0 : Bool) (a1 : Int) : Option (Bool × Int) := bif !a0 then some (false, (0 : Int)) else some (a0, a1)
noncomputable def F (K : Nat) : sig.In → Option (Bool × Int) := fun (x : ((Bool × Int) × Unit)) => f K x.1.1 x.1.2
noncomputable def cv : sig.In → (Bool × Int) → sig.Ou := fun x r => ((r.1, r.2), ())
theorem rets (K : Nat) : ∀ x y, withCv (F K) cv x = some y → Rets M 71 sig x y := runF_retsS (C := (C K)) (LP := noLoops) (RF := noRefit) (CP := noCuts) callsE_ok mxd noRefit_ok noCuts_ok (noL (by kernel_rfl)) (lb rfl) Tryz.func71 (by kernel_rfl) fun (x : ((Bool × Int) × Unit)) => by
  refine Eq.trans ?_ withCv_def.symm
  unfold F f
  try simp only [el]
  kernel_rfl
noncomputable def e (K : Nat) : En M := ⟨71, sig, _, F K, cv, by rfl, Tryz.f71, Tryz.func71, by kernel_rfl, rfl, rets K⟩
end avermentref09_Clean
namespace avermentref10_Fix
noncomputable def sig : Sig := ⟨(.agg (.cons (.ty yI) (.ty yI))), [], (.agg (.cons (.ty yI) (.ty yI))), []⟩
noncomputable def C {α : Type} (K : Nat) : CallsBy α := callsE (M := M) []
noncomputable def f (K : Nat) (a0 : Int) (a1 : Int) : Option (Int × Int) := bif decide (a0 > a1) then some (a1, a0) else some (a0, a1)
noncomputable def F (K : Nat) : sig.In → Option (Int × Int) := fun x => f K x.1.1 x.1.2
noncomputable def cv : sig.In → (Int × Int) → sig.Ou := fun x r => ((r.1, r.2), ())
theorem rets (K : Nat) : ∀ x y, withCv (F K) cv x = some y → Rets M 72 sig x y := runF_retsS (C := (C K)) (LP := noLoops) (RF := noRefit) (CP := noCuts) callsE_ok mxd noRefit_ok noCuts_ok (noL (by kernel_rfl)) (lb rfl) Tryz.func72 (by kernel_rfl) fun x => by
  rw [withCv_def]
  unfold F f
  try simp only [el]
  kernel_rfl
noncomputable def e (K : Nat) : En M := ⟨72, sig, _, F K, cv, by rfl, Tryz.f72, Tryz.func72, by kernel_rfl, rfl, rets K⟩
end avermentref10_Fix
namespace avermentref12_Fix
noncomputable def sig : Sig := ⟨(.agg (.cons (.ty yI) (.cons (.ty .bool) (.cons (.ty yI) (.cons (.ty yI) (.cons (.ty yI) (.ty yI))))))), [], (.agg (.cons (.ty yI) (.cons (.ty .bool) (.cons (.ty yI) (.cons (.ty yI) (.cons (.ty yI) (.ty yI))))))), []⟩
noncomputable def C {α : Type} (K : Nat) : CallsBy α := callsE (M := M) [avermentref09_Clean.e K, avermentref10_Fix.e K]
noncomputable def f (K : Nat) (a0 : Int) (a1 : Bool) (a2 : Int) (a3 : Int) (a4 : Int) (a5 : Int) : Option (Int × Bool × Int × Int × Int × Int) := bif IntKind.i64.wrap (↑(BitVec.ofInt (64 : Nat) a0 &&& BitVec.ofInt (64 : Nat) (7 : Int)).toNat : Int) == (0 : Int) then bif IntKind.i64.wrap (↑(BitVec.ofInt (64 : Nat) a5 &&& BitVec.ofInt (64 : Nat) (3 : Int)).toNat : Int) == (0 : Int) then (avermentref09_Clean.f K a1 a2).bind fun t => (avermentref10_Fix.f K a3 a4).bind fun t_1 => some ((7 : Int), t.1, t.2, t_1.1, t_1.2, (3 : Int)) else (avermentref09_Clean.f K a1 a2).bind fun t => (avermentref10_Fix.f K a3 a4).bind fun t_1 => some ((7 : Int), t.1, t.2, t_1.1, t_1.2, IntKind.i64.wrap (↑(BitVec.ofInt (64 : Nat) a5 &&& BitVec.ofInt (64 : Nat) (3 : Int)).toNat : Int)) else bif IntKind.i64.wrap (↑(BitVec.ofInt (64 : Nat) a5 &&& BitVec.ofInt (64 : Nat) (3 : Int)).toNat : Int) == (0 : Int) then (avermentref09_Clean.f K a1 a2).bind fun t => (avermentref10_Fix.f K a3 a4).bind fun t_1 => some (IntKind.i64.wrap (↑(BitVec.ofInt (64 : Nat) a0 &&& BitVec.ofInt (64 : Nat) (7 : Int)).toNat : Int), t.1, t.2, t_1.1, t_1.2, (3 : Int)) else (avermentref09_Clean.f K a1 a2).bind fun t => (avermentref10_Fix.f K a3 a4).bind fun t_1 => some (IntKind.i64.wrap (↑(BitVec.ofInt (64 : Nat) a0 &&& BitVec.ofInt (64 : Nat) (7 : Int)).toNat : Int), t.1, t.2, t_1.1, t_1.2, IntKind.i64.wrap (↑(BitVec.ofInt (64 : Nat) a5 &&& BitVec.ofInt (64 : Nat) (3 : Int)).toNat : Int))
noncomputable def F (K : Nat) : sig.In → Option (Int × Bool × Int × Int × Int × Int) := fun (x : ((Int × (Bool × (Int × (Int × (Int × Int))))) × Unit)) => f K x.1.1 x.1.2.1 x.1.2.2.1 x.1.2.2.2.1 x.1.2.2.2.2.1 x.1.2.2.2.2.2
noncomputable def cv : sig.In → (Int × Bool × Int × Int × Int × Int) → sig.Ou := fun x r => ((r.1, (r.2.1, (r.2.2.1, (r.2.2.2.1, (r.2.2.2.2.1, r.2.2.2.2.2))))), ())
theorem rets (K : Nat) : ∀ x y, withCv (F K) cv x = some y → Rets M 25 sig x y := runF_retsS (C := (C K)) (LP := noLoops) (RF := noRefit) (CP := noCuts) callsE_ok mxd noRefit_ok noCuts_ok (noL (by kernel_rfl)) (lb rfl) Tryz.func25 (by kernel_rfl) fun (x : ((Int × (Bool × (Int × (Int × (Int × Int))))) × Unit)) => by
  refine Eq.trans ?_ withCv_def.symm
  unfold F f
  try simp only [el]
  kernel_rfl
noncomputable def e (K : Nat) : En M := ⟨25, sig, _, F K, cv, by rfl, Tryz.f25, Tryz.func25, by kernel_rfl, rfl, rets K⟩
end avermentref12_Fix
namespace avermentlaw09_To
noncomputable def sig : Sig := ⟨(.agg (.cons (.ty .bool) (.ty yI))), [], (.agg (.cons (.ty .bool) (.ty yI))), []⟩
noncomputable def C {α : Type} (K : Nat) : CallsBy α := callsE (M := M) []
noncomputable def f (K : Nat) : Option (Unit) := some ()
noncomputable def F (K : Nat) : sig.In → Option (Unit) := fun (x : ((Bool × Int) × Unit)) => f K
noncomputable def cv : sig.In → Unit → sig.Ou := fun x r => ((x.1.1, x.1.2), ())
theorem rets (K : Nat) : ∀ x y, withCv (F K) cv x = some y → Rets M 69 sig x y := runF_retsS (C := (C K)) (LP := noLoops) (RF := noRefit) (CP := noCuts) callsE_ok mxd noRefit_ok noCuts_ok (noL (by kernel_rfl)) (lb rfl) Tryz.func69 (by kernel_rfl) fun (x : ((Bool × Int) × Unit)) => by
  refine Eq.trans ?_ withCv_def.symm
  unfold F f
  try simp only [el]
  kernel_rfl
noncomputable def e (K : Nat) : En M := ⟨69, sig, _, F K, cv, by rfl, Tryz.f69, Tryz.func69, by kernel_rfl, rfl, rets K⟩
end avermentlaw09_To
namespace avermentlaw10_To
noncomputable def sig : Sig := ⟨(.agg (.cons (.ty yI) (.ty yI))), [], (.agg (.cons (.ty yI) (.ty yI))), []⟩
noncomputable def C {α : Type} (K : Nat) : CallsBy α := callsE (M := M) []
noncomputable def f (K : Nat) : Option (Unit) := some ()
noncomputable def F (K : Nat) : sig.In → Option (Unit) := fun x => f K
noncomputable def cv : sig.In → Unit → sig.Ou := fun x r => ((x.1.1, x.1.2), ())
theorem rets (K : Nat) : ∀ x y, withCv (F K) cv x = some y → Rets M 70 sig x y := runF_retsS (C := (C K)) (LP := noLoops) (RF := noRefit) (CP := noCuts) callsE_ok mxd noRefit_ok noCuts_ok (noL (by kernel_rfl)) (lb rfl) Tryz.func70 (by kernel_rfl) fun x => by
  rw [withCv_def]
  unfold F f
  try simp only [el]
  kernel_rfl
noncomputable def e (K : Nat) : En M := ⟨70, sig, _, F K, cv, by rfl, Tryz.f70, Tryz.func70, by kernel_rfl, rfl, rets K⟩
end avermentlaw10_To
namespace avermentlaw12_To
noncomputable def sig : Sig := ⟨(.agg (.cons (.ty yI) (.cons (.ty .bool) (.cons (.ty yI) (.cons (.ty yI) (.cons (.ty yI) (.ty yI))))))), [], (.agg (.cons (.ty yI) (.cons (.ty .bool) (.cons (.ty yI) (.cons (.ty yI) (.cons (.ty yI) (.ty yI))))))), []⟩
noncomputable def C {α : Type} (K : Nat) : CallsBy α := callsE (M := M) [avermentlaw09_To.e K, avermentlaw10_To.e K]
noncomputable def f (K : Nat) : Option (Unit) := (avermentlaw09_To.f K).bind fun t => avermentlaw10_To.f K
noncomputable def F (K : Nat) : sig.In → Option (Unit) := fun (x : ((Int × (Bool × (Int × (Int × (Int × Int))))) × Unit)) => f K
noncomputable def cv : sig.In → Unit → sig.Ou := fun x r => ((x.1.1, (x.1.2.1, (x.1.2.2.1, (x.1.2.2.2.1, (x.1.2.2.2.2.1, x.1.2.2.2.2.2))))), ())
theorem rets (K : Nat) : ∀ x y, withCv (F K) cv x = some y → Rets M 24 sig x y := runF_retsS (C := (C K)) (LP := noLoops) (RF := noRefit) (CP := noCuts) callsE_ok mxd noRefit_ok noCuts_ok (noL (by kernel_rfl)) (lb rfl) Tryz.func24 (by kernel_rfl) fun (x : ((Int × (Bool × (Int × (Int × (Int × Int))))) × Unit)) => by
  refine Eq.trans ?_ withCv_def.symm
  unfold F f
  try simp only [el]
  kernel_rfl
noncomputable def e (K : Nat) : En M := ⟨24, sig, _, F K, cv, by rfl, Tryz.f24, Tryz.func24, by kernel_rfl, rfl, rets K⟩
end avermentlaw12_To
namespace sign_Join
noncomputable def sig : Sig := ⟨(.cons (.ty yI) (.ty yI)), [], (.ty yI), []⟩
noncomputable def C {α : Type} (K : Nat) : CallsBy α := callsE (M := M) []
noncomputable def f (K : Nat) (a0 : Int) (a1 : Int) : Option (Int) := some (IntKind.i64.wrap (↑(BitVec.ofInt (64 : Nat) (IntKind.i64.wrap (↑(BitVec.ofInt (64 : Nat) a0 ||| BitVec.ofInt (64 : Nat) a1).toNat : Int)) &&& BitVec.ofInt (64 : Nat) (7 : Int)).toNat : Int))
noncomputable def F (K : Nat) : sig.In → Option (Int) := fun x => f K x.1.1 x.1.2
noncomputable def cv : sig.In → Int → sig.Ou := fun x r => (r, ())
theorem rets (K : Nat) : ∀ x y, withCv (F K) cv x = some y → Rets M 65 sig x y := runF_retsS (C := (C K)) (LP := noLoops) (RF := noRefit) (CP := noCuts) callsE_ok mxd noRefit_ok noCuts_ok (noL (by kernel_rfl)) (lb rfl) Tryz.func65 (by kernel_rfl) fun x => by
  rw [withCv_def]
  unfold F f
  try simp only [el]
  kernel_rfl
noncomputable def e (K : Nat) : En M := ⟨65, sig, _, F K, cv, by rfl, Tryz.f65, Tryz.func65, by kernel_rfl, rfl, rets K⟩
end sign_Join
namespace known_Known_is
noncomputable def sig : Sig := ⟨(.cons (.agg (.cons (.ty .bool) (.ty yI))) (.ty yI)), [], (.ty .bool), []⟩
noncomputable def C {α : Type} (K : Nat) : CallsBy α := callsE (M := M) []
noncomputable def CP {α : Type} (K : Nat) : CutBy α := (cpPut 1 (rpCut M bindC [.bool] [4] (C K) (eqBy M.P)) noCuts)
theorem CP_ok {α : Type} (K : Nat) : CutsOk (α := α) M 0 (CP K) := (cpPut_ok (rpCut_ok callsE_ok (eqBy_ok _) mxd) noCuts_ok)
noncomputable def f (K : Nat) (a0 : Bool) (a1 : Int) (a2 : Int) : Option (Bool) := bindC (bif a0 then some (a1 == a2) else some false) fun t => some t
noncomputable def F (K : Nat) : sig.In → Option (Bool) := fun (x : (((Bool × Int) × Int) × Unit)) => f K x.1.1.1 x.1.1.2 x.1.2
noncomputable def cv : sig.In → Bool → sig.Ou := fun x r => (r, ())
theorem rets (K : Nat) : ∀ x y, withCv (F K) cv x = some y → Rets M 114 sig x y := runF_retsS (C := (C K)) (LP := noLoops) (RF := noRefit) (CP := (CP K)) callsE_ok mxd noRefit_ok (CP_ok K) (noL (by kernel_rfl)) (lb rfl) Tryz.func114 (by kernel_rfl) fun (x : (((Bool × Int) × Int) × Unit)) => by
  refine Eq.trans ?_ withCv_def.symm
  unfold F f
  try simp only [el]
  kernel_rfl
noncomputable def e (K : Nat) : En M := ⟨114, sig, _, F K, cv, by rfl, Tryz.f114, Tryz.func114, by kernel_rfl, rfl, rets K⟩
end known_Known_is
namespace known_Join
noncomputable def sig : Sig := ⟨(.cons (.agg (.cons (.ty .bool) (.ty yI))) (.agg (.cons (.ty .bool) (.ty yI)))), [], (.agg (.cons (.ty .bool) (.ty yI))), []⟩
noncomputable def C {α : Type} (K : Nat) : CallsBy α := callsE (M := M) [known_Known_is.e K, known_Any.e K]
noncomputable def CP {α : Type} (K : Nat) : CutBy α := (cpPut 1 (rpCut M bindC [.bool] [12] (C K) (eqBy M.P)) noCuts)
theorem CP_ok {α : Type} (K : Nat) : CutsOk (α := α) M 0 (CP K) := (cpPut_ok (rpCut_ok callsE_ok (eqBy_ok _) mxd) noCuts_ok)
noncomputable def f (K : Nat) (a0 : Bool) (a1 : Int) (a2 : Bool) (a3 : Int) : Option (Bool × Int) := bindC (bif a0 then (known_Known_is.f K a2 a3 a1).bind fun t => some t else some false) fun t => bif t then some (a0, a1) else known_Any.f K
noncomputable def F (K : Nat) : sig.In → Option (Bool × Int) := fun (x : (((Bool × Int) × (Bool × Int)) × Unit)) => f K x.1.1.1 x.1.1.2 x.1.2.1 x.1.2.2
noncomputable def cv : sig.In → (Bool × Int) → sig.Ou := fun x r => ((r.1, r.2), ())
theorem rets (K : Nat) : ∀ x y, withCv (F K) cv x = some y → Rets M 66 sig x y := runF_retsS (C := (C K)) (LP := noLoops) (RF := noRefit) (CP := (CP K)) callsE_ok mxd noRefit_ok (CP_ok K) (noL (by kernel_rfl)) (lb rfl) Tryz.func66 (by kernel_rfl) fun (x : (((Bool × Int) × (Bool × Int)) × Unit)) => by
  refine Eq.trans ?_ withCv_def.symm
  unfold F f
  try simp only [el]
  kernel_rfl
noncomputable def e (K : Nat) : En M := ⟨66, sig, _, F K, cv, by rfl, Tryz.f66, Tryz.func66, by kernel_rfl, rfl, rets K⟩
end known_Join
namespace span_Join
noncomputable def sig : Sig := ⟨(.cons (.agg (.cons (.ty yI) (.ty yI))) (.agg (.cons (.ty yI) (.ty yI)))), [], (.agg (.cons (.ty yI) (.ty yI))), []⟩
noncomputable def C {α : Type} (K : Nat) : CallsBy α := callsE (M := M) []
noncomputable def f (K : Nat) (a0 : Int) (a1 : Int) (a2 : Int) (a3 : Int) : Option (Int × Int) := some (if a2 < a0 then a2 else a0, if a3 > a1 then a3 else a1)
noncomputable def F (K : Nat) : sig.In → Option (Int × Int) := fun x => f K x.1.1.1 x.1.1.2 x.1.2.1 x.1.2.2
noncomputable def cv : sig.In → (Int × Int) → sig.Ou := fun x r => ((r.1, r.2), ())
theorem rets (K : Nat) : ∀ x y, withCv (F K) cv x = some y → Rets M 67 sig x y := runF_retsS (C := (C K)) (LP := noLoops) (RF := noRefit) (CP := noCuts) callsE_ok mxd noRefit_ok noCuts_ok (noL (by kernel_rfl)) (lb rfl) Tryz.func67 (by kernel_rfl) fun x => by
  rw [withCv_def]
  unfold F f
  try simp only [el]
  kernel_rfl
noncomputable def e (K : Nat) : En M := ⟨67, sig, _, F K, cv, by rfl, Tryz.f67, Tryz.func67, by kernel_rfl, rfl, rets K⟩
end span_Join
namespace parity_Join
noncomputable def sig : Sig := ⟨(.cons (.ty yI) (.ty yI)), [], (.ty yI), []⟩
noncomputable def C {α : Type} (K : Nat) : CallsBy α := callsE (M := M) []
noncomputable def f (K : Nat) (a0 : Int) (a1 : Int) : Option (Int) := some (IntKind.i64.wrap (↑(BitVec.ofInt (64 : Nat) (IntKind.i64.wrap (↑(BitVec.ofInt (64 : Nat) a0 ||| BitVec.ofInt (64 : Nat) a1).toNat : Int)) &&& BitVec.ofInt (64 : Nat) (3 : Int)).toNat : Int))
noncomputable def F (K : Nat) : sig.In → Option (Int) := fun x => f K x.1.1 x.1.2
noncomputable def cv : sig.In → Int → sig.Ou := fun x r => (r, ())
theorem rets (K : Nat) : ∀ x y, withCv (F K) cv x = some y → Rets M 68 sig x y := runF_retsS (C := (C K)) (LP := noLoops) (RF := noRefit) (CP := noCuts) callsE_ok mxd noRefit_ok noCuts_ok (noL (by kernel_rfl)) (lb rfl) Tryz.func68 (by kernel_rfl) fun x => by
  rw [withCv_def]
  unfold F f
  try simp only [el]
  kernel_rfl
noncomputable def e (K : Nat) : En M := ⟨68, sig, _, F K, cv, by rfl, Tryz.f68, Tryz.func68, by kernel_rfl, rfl, rets K⟩
end parity_Join
namespace fact_Join
noncomputable def sig : Sig := ⟨(.cons (.agg (.cons (.ty yI) (.cons (.ty .bool) (.cons (.ty yI) (.cons (.ty yI) (.cons (.ty yI) (.ty yI))))))) (.agg (.cons (.ty yI) (.cons (.ty .bool) (.cons (.ty yI) (.cons (.ty yI) (.cons (.ty yI) (.ty yI)))))))), [], (.agg (.cons (.ty yI) (.cons (.ty .bool) (.cons (.ty yI) (.cons (.ty yI) (.cons (.ty yI) (.ty yI))))))), []⟩
noncomputable def C {α : Type} (K : Nat) : CallsBy α := callsE (M := M) [sign_Join.e K, known_Join.e K, span_Join.e K, parity_Join.e K]
noncomputable def f (K : Nat) (a0 : Int) (a1 : Bool) (a2 : Int) (a3 : Int) (a4 : Int) (a5 : Int) (a6 : Int) (a7 : Bool) (a8 : Int) (a9 : Int) (a10 : Int) (a11 : Int) : Option (Int × Bool × Int × Int × Int × Int) := (sign_Join.f K a0 a6).bind fun t => (known_Join.f K a1 a2 a7 a8).bind fun t_1 => (span_Join.f K a3 a4 a9 a10).bind fun t_2 => (parity_Join.f K a5 a11).bind fun t_3 => some (t, t_1.1, t_1.2, t_2.1, t_2.2, t_3)
noncomputable def F (K : Nat) : sig.In → Option (Int × Bool × Int × Int × Int × Int) := fun (x : (((Int × (Bool × (Int × (Int × (Int × Int))))) × (Int × (Bool × (Int × (Int × (Int × Int)))))) × Unit)) => f K x.1.1.1 x.1.1.2.1 x.1.1.2.2.1 x.1.1.2.2.2.1 x.1.1.2.2.2.2.1 x.1.1.2.2.2.2.2 x.1.2.1 x.1.2.2.1 x.1.2.2.2.1 x.1.2.2.2.2.1 x.1.2.2.2.2.2.1 x.1.2.2.2.2.2.2
noncomputable def cv : sig.In → (Int × Bool × Int × Int × Int × Int) → sig.Ou := fun x r => ((r.1, (r.2.1, (r.2.2.1, (r.2.2.2.1, (r.2.2.2.2.1, r.2.2.2.2.2))))), ())
theorem rets (K : Nat) : ∀ x y, withCv (F K) cv x = some y → Rets M 23 sig x y := runF_retsS (C := (C K)) (LP := noLoops) (RF := noRefit) (CP := noCuts) callsE_ok mxd noRefit_ok noCuts_ok (noL (by kernel_rfl)) (lb rfl) Tryz.func23 (by kernel_rfl) fun (x : (((Int × (Bool × (Int × (Int × (Int × Int))))) × (Int × (Bool × (Int × (Int × (Int × Int)))))) × Unit)) => by
  refine Eq.trans ?_ withCv_def.symm
  unfold F f
  try simp only [el]
  kernel_rfl
noncomputable def e (K : Nat) : En M := ⟨23, sig, _, F K, cv, by rfl, Tryz.f23, Tryz.func23, by kernel_rfl, rfl, rets K⟩
end fact_Join
namespace ir_Block_sets
noncomputable def sig : Sig := ⟨(.agg (.cons (.ty (.slice yInsn)) (.cons (.ty yI) (.cons (.ty yI) (.cons (.ty yI) (.ty yI)))))), [], (.ty yI), []⟩
noncomputable def C {α : Type} (K : Nat) : CallsBy α := callsE (M := M) [ir_Sets.e K]
noncomputable def l0.h : SSh := ⟨[3, 9, 10, 11], (.cons (.ty yI) (.cons (.ty (.slice yInsn)) (.cons (.ty yI) (.ty yI)))), []⟩
noncomputable def l0.x : SSh := ⟨[3], (.ty yI), []⟩
noncomputable def l0.cx : l0.h.I → Int → l0.x.I := fun x r => (r, ())
noncomputable def l0.f (K : Nat) : Nat → Int → List LInsn → Int → Int → Option (Int)
  | 0, _, _, _, _ => none
  | k + 1, a0, a1, a2, a3 => bif decide (a3 < a2) then bif decide ((0 : Int) ≤ a3) && true then a1[a3.toNat]?.bind fun t => (ir_Sets.f K t.1 t.2.1).bind fun t => bif t.2 then l0.f K k (IntKind.i64.wrap (a0 + (1 : Int))) a1 a2 (IntKind.i64.wrap (a3 + (1 : Int))) else l0.f K k a0 a1 a2 (IntKind.i64.wrap (a3 + (1 : Int))) else none else some a0
noncomputable def l0.F (K : Nat) (k : Nat) : l0.h.I → Option (Int) := fun x => l0.f K k x.1.1 x.1.2.1 x.1.2.2.1 x.1.2.2.2
noncomputable def l0.lp {α : Type} (K : Nat) : St → Kn α → Option α := lpX 0 25 0 l0.h l0.x (l0.F K K) l0.cx
theorem l0.ok {α : Type} (K : Nat) : LoopOk (α := α) M 0 (nthLoop Tryz.f119 0) (l0.lp K) := lpX_okS (C := (C K)) (LP := noLoops) (RF := noRefit) (CP := noCuts) (L := 20) callsE_ok mxd noRefit_ok noCuts_ok (noL (by kernel_rfl)) (lb rfl) (lb rfl) (fun x => rfl) fun k x => by
  rw [withCv_def]
  unfold l0.F
  rw [l0.f]
  try simp only [el]
  kernel_rfl
noncomputable def f (K : Nat) (a0 : List LInsn) : Option (Int) := l0.f K K (0 : Int) a0 (↑a0.length : Int) (0 : Int)
noncomputable def F (K : Nat) : sig.In → Option (Int) := fun x => f K x.1.1
noncomputable def cv : sig.In → Int → sig.Ou := fun x r => (r, ())
theorem rets (K : Nat) : ∀ x y, withCv (F K) cv x = some y → Rets M 119 sig x y := runF_retsS (C := (C K)) (LP := (lpPut 3 (l0.lp K) noLoops)) (RF := noRefit) (CP := noCuts) callsE_ok mxd noRefit_ok noCuts_ok (show LoopsOk M 0 (lpPut 3 (l0.lp K) noLoops) (loopsOf (bodyOf Tryz.f119)) from (show loopsOf (bodyOf Tryz.f119) = [nthLoop Tryz.f119 0] by kernel_rfl) ▸ (loopsOk_put (key := 3) (by kernel_rfl) (l0.ok K) noLoops_ok (by kernel_rfl))) (lb rfl) Tryz.func119 (by kernel_rfl) fun x => by
  rw [withCv_def]
  unfold F f
  try simp only [el]
  kernel_rfl
noncomputable def e (K : Nat) : En M := ⟨119, sig, _, F K, cv, by rfl, Tryz.f119, Tryz.func119, by kernel_rfl, rfl, rets K⟩
end ir_Block_sets
namespace ir_Func_sites
noncomputable def sig : Sig := ⟨(.agg (.cons (.ty .str) (.cons (.ty yI) (.cons (.ty yI) (.ty (.slice yBlock)))))), [], (.ty yI), []⟩
noncomputable def C {α : Type} (K : Nat) : CallsBy α := callsE (M := M) [ir_Block_sets.e K]
noncomputable def l0.h : SSh := ⟨[3, 10, 11, 12], (.cons (.ty yI) (.cons (.ty (.slice yBlock)) (.cons (.ty yI) (.ty yI)))), []⟩
noncomputable def l0.x : SSh := ⟨[3], (.ty yI), []⟩
noncomputable def l0.cx : l0.h.I → Int → l0.x.I := fun x r => (r, ())
noncomputable def l0.f (K : Nat) : Nat → Int → List LBlock → Int → Int → Option (Int)
  | 0, _, _, _, _ => none
  | k + 1, a0, a1, a2, a3 => bif decide (a3 < a2) then bif decide ((0 : Int) ≤ a3) && true then a1[a3.toNat]?.bind fun t => (ir_Block_sets.f K t.1).bind fun t => l0.f K k (IntKind.i64.wrap (a0 + t)) a1 a2 (IntKind.i64.wrap (a3 + (1 : Int))) else none else some a0
noncomputable def l0.F (K : Nat) (k : Nat) : l0.h.I → Option (Int) := fun x => l0.f K k x.1.1 x.1.2.1 x.1.2.2.1 x.1.2.2.2
noncomputable def l0.lp {α : Type} (K : Nat) : St → Kn α → Option α := lpX 0 22 0 l0.h l0.x (l0.F K K) l0.cx
theorem l0.ok {α : Type} (K : Nat) : LoopOk (α := α) M 0 (nthLoop Tryz.f115 0) (l0.lp K) := lpX_okS (C := (C K)) (LP := noLoops) (RF := noRefit) (CP := noCuts) (L := 20) callsE_ok mxd noRefit_ok noCuts_ok (noL (by kernel_rfl)) (lb rfl) (lb rfl) (fun x => rfl) fun k x => by
  rw [withCv_def]
  unfold l0.F
  rw [l0.f]
  try simp only [el]
  kernel_rfl
noncomputable def f (K : Nat) (a2 : Int) (a3 : List LBlock) : Option (Int) := l0.f K K (if (0 : Int) > a2 then (0 : Int) else a2) a3 (↑a3.length : Int) (0 : Int)
noncomputable def F (K : Nat) : sig.In → Option (Int) := fun x => f K x.1.2.2.1 x.1.2.2.2
noncomputable def cv : sig.In → Int → sig.Ou := fun x r => (r, ())
theorem rets (K : Nat) : ∀ x y, withCv (F K) cv x = some y → Rets M 115 sig x y := runF_retsS (C := (C K)) (LP := (lpPut 3 (l0.lp K) noLoops)) (RF := noRefit) (CP := noCuts) callsE_ok mxd noRefit_ok noCuts_ok (show LoopsOk M 0 (lpPut 3 (l0.lp K) noLoops) (loopsOf (bodyOf Tryz.f115)) from (show loopsOf (bodyOf Tryz.f115) = [nthLoop Tryz.f115 0] by kernel_rfl) ▸ (loopsOk_put (key := 3) (by kernel_rfl) (l0.ok K) noLoops_ok (by kernel_rfl))) (lb rfl) Tryz.func115 (by kernel_rfl) fun x => by
  rw [withCv_def]
  unfold F f
  try simp only [el]
  kernel_rfl
noncomputable def e (K : Nat) : En M := ⟨115, sig, _, F K, cv, by rfl, Tryz.f115, Tryz.func115, by kernel_rfl, rfl, rets K⟩
end ir_Func_sites
namespace ir_Sites
noncomputable def sig : Sig := ⟨(.agg (.cons (.ty (.slice yI)) (.cons (.ty (.slice yFunc)) (.ty (.slice yImport))))), [], (.ty yI), []⟩
noncomputable def C {α : Type} (K : Nat) : CallsBy α := callsE (M := M) [ir_Func_sites.e K]
noncomputable def l0.h : SSh := ⟨[3, 7, 8, 9], (.cons (.ty yI) (.cons (.ty (.slice yFunc)) (.cons (.ty yI) (.ty yI)))), []⟩
noncomputable def l0.x : SSh := ⟨[3], (.ty yI), []⟩
noncomputable def l0.cx : l0.h.I → Int → l0.x.I := fun x r => (r, ())
noncomputable def l0.f (K : Nat) : Nat → Int → List LFunc → Int → Int → Option (Int)
  | 0, _, _, _, _ => none
  | k + 1, a0, a1, a2, a3 => bif decide (a3 < a2) then bif decide ((0 : Int) ≤ a3) && true then a1[a3.toNat]?.bind fun t => (ir_Func_sites.f K t.2.2.1 t.2.2.2).bind fun t => l0.f K k (IntKind.i64.wrap (a0 + t)) a1 a2 (IntKind.i64.wrap (a3 + (1 : Int))) else none else some a0
noncomputable def l0.F (K : Nat) (k : Nat) : l0.h.I → Option (Int) := fun x => l0.f K k x.1.1 x.1.2.1 x.1.2.2.1 x.1.2.2.2
noncomputable def l0.lp {α : Type} (K : Nat) : St → Kn α → Option α := lpX 0 19 0 l0.h l0.x (l0.F K K) l0.cx
theorem l0.ok {α : Type} (K : Nat) : LoopOk (α := α) M 0 (nthLoop Tryz.f74 0) (l0.lp K) := lpX_okS (C := (C K)) (LP := noLoops) (RF := noRefit) (CP := noCuts) (L := 20) callsE_ok mxd noRefit_ok noCuts_ok (noL (by kernel_rfl)) (lb rfl) (lb rfl) (fun x => rfl) fun k x => by
  rw [withCv_def]
  unfold l0.F
  rw [l0.f]
  try simp only [el]
  kernel_rfl
noncomputable def f (K : Nat) (a1 : List LFunc) : Option (Int) := l0.f K K (0 : Int) a1 (↑a1.length : Int) (0 : Int)
noncomputable def F (K : Nat) : sig.In → Option (Int) := fun x => f K x.1.2.1
noncomputable def cv : sig.In → Int → sig.Ou := fun x r => (r, ())
theorem rets (K : Nat) : ∀ x y, withCv (F K) cv x = some y → Rets M 74 sig x y := runF_retsS (C := (C K)) (LP := (lpPut 3 (l0.lp K) noLoops)) (RF := noRefit) (CP := noCuts) callsE_ok mxd noRefit_ok noCuts_ok (show LoopsOk M 0 (lpPut 3 (l0.lp K) noLoops) (loopsOf (bodyOf Tryz.f74)) from (show loopsOf (bodyOf Tryz.f74) = [nthLoop Tryz.f74 0] by kernel_rfl) ▸ (loopsOk_put (key := 3) (by kernel_rfl) (l0.ok K) noLoops_ok (by kernel_rfl))) (lb rfl) Tryz.func74 (by kernel_rfl) fun x => by
  rw [withCv_def]
  unfold F f
  try simp only [el]
  kernel_rfl
noncomputable def e (K : Nat) : En M := ⟨74, sig, _, F K, cv, by rfl, Tryz.f74, Tryz.func74, by kernel_rfl, rfl, rets K⟩
end ir_Sites
namespace ir_First
noncomputable def sig : Sig := ⟨(.cons (.agg (.cons (.ty (.slice yI)) (.cons (.ty (.slice yFunc)) (.ty (.slice yImport))))) (.ty yI)), [], (.ty yI), []⟩
noncomputable def C {α : Type} (K : Nat) : CallsBy α := callsE (M := M) [ir_within.e K, ir_Sites.e K]
noncomputable def f (K : Nat) (a1 : List LFunc) (a3 : Int) : Option (Int) := (ir_within.f K a3 (↑a1.length : Int)).bind fun t => bif !t then some (-1 : Int) else bif decide ((↑(0 : Nat) : Int) ≤ a3) && decide (a3 ≤ (↑a1.length : Int)) && true then ir_Sites.f K (List.drop (0 : Nat) (List.take a3.toNat a1)) else none
noncomputable def F (K : Nat) : sig.In → Option (Int) := fun x => f K x.1.1.2.1 x.1.2
noncomputable def cv : sig.In → Int → sig.Ou := fun x r => (r, ())
theorem rets (K : Nat) : ∀ x y, withCv (F K) cv x = some y → Rets M 27 sig x y := runF_retsS (C := (C K)) (LP := noLoops) (RF := noRefit) (CP := noCuts) callsE_ok mxd noRefit_ok noCuts_ok (noL (by kernel_rfl)) (lb rfl) Tryz.func27 (by kernel_rfl) fun x => by
  rw [withCv_def]
  unfold F f
  try simp only [el]
  kernel_rfl
noncomputable def e (K : Nat) : En M := ⟨27, sig, _, F K, cv, by rfl, Tryz.f27, Tryz.func27, by kernel_rfl, rfl, rets K⟩
end ir_First
namespace state_Begin
noncomputable def sig : Sig := ⟨(.cons (.ty yI) (.cons (.ty (.slice yValue)) (.ty yI))), [], (.agg (.cons (.ty .bool) (.cons (.ty (.slice yValue)) (.ty (.slice (.slice yI)))))), []⟩
noncomputable def C {α : Type} (K : Nat) : CallsBy α := callsE (M := M) [fact_Of.e K]
noncomputable def l0.h : SSh := ⟨[1, 2, 6, 7, 12, 13], (.cons (.ty (.slice yValue)) (.cons (.ty yI) (.cons (.ptr 0 0) (.cons (.ptr 1 0) (.cons (.ty yI) (.ty yI)))))), [.cells 79 0 (.cons (.ty .bool) (.cons (.own 2) (.own 3))), .cells 79 0 (.cons (.ty .bool) (.cons (.own 4) (.own 5))), .list 68 yValue [], .list 84 (.slice yI) [], .list 68 yValue [], .list 84 (.slice yI) []]⟩
noncomputable def l0.x : SSh := ⟨[6, 7], (.cons (.ptr 0 0) (.ptr 1 0)), [.cells 79 0 (.cons (.ty .bool) (.cons (.own 2) (.own 3))), .cells 79 0 (.cons (.ty .bool) (.cons (.own 4) (.own 5))), .list 68 yValue [], .list 84 (.slice yI) [], .list 68 yValue [], .list 84 (.slice yI) []]⟩
noncomputable def l0.cx : l0.h.I → (List LValue × List (List Int)) → l0.x.I := fun x r => (((), ()), ((x.2.1.1, ((), ())), ((x.2.2.1.1, ((), ())), (x.2.2.2.1, (x.2.2.2.2.1, (r.1, (r.2, ())))))))
noncomputable def l0.f (K : Nat) : Nat → List LValue → Int → Int → Int → List LValue → List (List Int) → Option (List LValue × List (List Int))
  | 0, _, _, _, _, _, _ => none
  | k + 1, a0, a1, a2, a3, a8, a9 => bif decide (a3 < a2) then (fact_Of.f K (0 : Int)).bind fun t => bif decide (a3 < (↑a0.length : Int)) then bif decide ((0 : Int) ≤ a3) && true then a0[a3.toNat]?.bind fun t => bif (a8.length + [(t.1, (t.2.1.1, t.2.1.2), (t.2.2.1.1, t.2.2.1.2), t.2.2.2)].length).ble (100000 : Nat) then bif (a9.length + [[IntKind.i64.wrap (a1 + a3)]].length).ble (100000 : Nat) then l0.f K k a0 a1 a2 (IntKind.i64.wrap (a3 + (1 : Int))) (a8 ++ [(t.1, (t.2.1.1, t.2.1.2), (t.2.2.1.1, t.2.2.1.2), t.2.2.2)]) (a9 ++ [[IntKind.i64.wrap (a1 + a3)]]) else none else none else none else bif (a8.length + [(t.1, (t.2.1, (0 : Int)), ((0 : Int), (0 : Int)), t.2.2)].length).ble (100000 : Nat) then bif (a9.length + [[IntKind.i64.wrap (a1 + a3)]].length).ble (100000 : Nat) then l0.f K k a0 a1 a2 (IntKind.i64.wrap (a3 + (1 : Int))) (a8 ++ [(t.1, (t.2.1, (0 : Int)), ((0 : Int), (0 : Int)), t.2.2)]) (a9 ++ [[IntKind.i64.wrap (a1 + a3)]]) else none else none else some (a8, a9)
noncomputable def l0.F (K : Nat) (k : Nat) : l0.h.I → Option (List LValue × List (List Int)) := fun (x : (((List LValue) × (Int × (Unit × (Unit × (Int × Int))))) × ((Bool × (Unit × Unit)) × ((Bool × (Unit × Unit)) × ((List LValue) × ((List (List Int)) × ((List LValue) × ((List (List Int)) × Unit)))))))) => l0.f K k x.1.1 x.1.2.1 x.1.2.2.2.2.1 x.1.2.2.2.2.2 x.2.2.2.2.2.1 x.2.2.2.2.2.2.1
noncomputable def l0.lp {α : Type} (K : Nat) : St → Kn α → Option α := lpX 0 42 0 l0.h l0.x (l0.F K K) l0.cx
theorem l0.ok {α : Type} (K : Nat) : LoopOk (α := α) M 0 (nthLoop Tryz.f26 0) (l0.lp K) := lpX_okS (C := (C K)) (LP := noLoops) (RF := noRefit) (CP := noCuts) (L := 20) callsE_ok mxd noRefit_ok noCuts_ok (noL (by kernel_rfl)) (lb rfl) (lb rfl) (fun x => rfl) fun k (x : (((List LValue) × (Int × (Unit × (Unit × (Int × Int))))) × ((Bool × (Unit × Unit)) × ((Bool × (Unit × Unit)) × ((List LValue) × ((List (List Int)) × ((List LValue) × ((List (List Int)) × Unit)))))))) => by
  refine Eq.trans ?_ withCv_def.symm
  unfold l0.F
  rw [l0.f]
  try simp only [el]
  kernel_rfl
noncomputable def f (K : Nat) (a0 : Int) (a1 : List LValue) (a2 : Int) : Option (Bool × List LValue × List (List Int)) := (l0.f K K a1 a2 (if (0 : Int) > a0 then (0 : Int) else a0) (0 : Int) [] []).bind fun t => some (true, t.1, t.2)
noncomputable def F (K : Nat) : sig.In → Option (Bool × List LValue × List (List Int)) := fun x => f K x.1.1 x.1.2.1 x.1.2.2
noncomputable def cv : sig.In → (Bool × List LValue × List (List Int)) → sig.Ou := fun x r => ((r.1, (r.2.1, r.2.2)), ())
theorem rets (K : Nat) : ∀ x y, withCv (F K) cv x = some y → Rets M 26 sig x y := runF_retsS (C := (C K)) (LP := (lpPut 3 (l0.lp K) noLoops)) (RF := noRefit) (CP := noCuts) callsE_ok mxd noRefit_ok noCuts_ok (show LoopsOk M 0 (lpPut 3 (l0.lp K) noLoops) (loopsOf (bodyOf Tryz.f26)) from (show loopsOf (bodyOf Tryz.f26) = [nthLoop Tryz.f26 0] by kernel_rfl) ▸ (loopsOk_put (key := 3) (by kernel_rfl) (l0.ok K) noLoops_ok (by kernel_rfl))) (lb rfl) Tryz.func26 (by kernel_rfl) fun x => by
  rw [withCv_def]
  unfold F f
  try simp only [el]
  kernel_rfl
noncomputable def e (K : Nat) : En M := ⟨26, sig, _, F K, cv, by rfl, Tryz.f26, Tryz.func26, by kernel_rfl, rfl, rets K⟩
end state_Begin
namespace vm_Frame_copied
noncomputable def sig : Sig := ⟨(.agg (.cons (.ty yI) (.cons (.ty yI) (.cons (.ty yI) (.cons (.ownI 0) (.ownI 1)))))), [.many 2 yI, .many 3 yI], (.agg (.cons (.ty yI) (.cons (.ty yI) (.cons (.ty yI) (.cons (.ty (.slice yI)) (.ty (.slice yI))))))), [.many 2 yI, .many 3 yI]⟩
noncomputable def C {α : Type} (K : Nat) : CallsBy α := callsE (M := M) [slices_Clone_int64_int64_ini.e K, slices_Clone_int_int_ini.e K]
noncomputable def f (K : Nat) (a3 : Nat) (a4 : Nat) (a5 : List (List Int)) (a6 : List (List Int)) : Option (List Int × List Int) := (slices_Clone_int64_int64_ini.f K a3 a5).bind fun t => (slices_Clone_int_int_ini.f K a4 a6).bind fun t_1 => some (t, t_1)
noncomputable def F (K : Nat) : sig.In → Option (List Int × List Int) := fun x => f K x.1.2.2.2.1 x.1.2.2.2.2 x.2.1 x.2.2.1
noncomputable def cv : sig.In → (List Int × List Int) → sig.Ou := fun x r => ((x.1.1, (x.1.2.1, (x.1.2.2.1, (r.1, r.2)))), (x.2.1, (x.2.2.1, ())))
theorem rets (K : Nat) : ∀ x y, withCv (F K) cv x = some y → Rets M 75 sig x y := runF_retsS (C := (C K)) (LP := noLoops) (RF := noRefit) (CP := noCuts) callsE_ok mxd noRefit_ok noCuts_ok (noL (by kernel_rfl)) (lb rfl) Tryz.func75 (by kernel_rfl) fun x => by
  rw [withCv_def]
  unfold F f
  try simp only [el]
  kernel_rfl
noncomputable def e (K : Nat) : En M := ⟨75, sig, _, F K, cv, by rfl, Tryz.f75, Tryz.func75, by kernel_rfl, rfl, rets K⟩
end vm_Frame_copied
namespace vm_Machine_Frames
noncomputable def sig : Sig := ⟨(.ptr 0 0), [.cells 132 0 (.cons (.ty (.ptr yprogram)) (.cons (.own 1) (.cons (.ty (.slice yI)) (.cons (.own 2) (.cons (.own 3) (.cons (.ty yI) (.ty yI))))))), .list 2 yI [], .list 2 yI [], .list 86 (.pair yI (.pair yI (.pair yI (.pair (.own 0) (.own 1))))) [4, 5], .many 2 yI, .many 3 yI], (.ty (.slice yFrame)), [.cells 132 0 (.cons (.ty (.ptr yprogram)) (.cons (.own 1) (.cons (.ty (.slice yI)) (.cons (.own 2) (.cons (.own 3) (.cons (.ty yI) (.ty yI))))))), .list 2 yI [], .list 2 yI [], .list 86 (.pair yI (.pair yI (.pair yI (.pair (.own 0) (.own 1))))) [4, 5], .many 2 yI, .many 3 yI]⟩
noncomputable def C {α : Type} (K : Nat) : CallsBy α := callsE (M := M) [vm_Frame_copied.e K]
noncomputable def l0.h : SSh := ⟨[3, 11, 12, 13], (.cons (.own 6) (.cons (.own 3) (.cons (.ty yI) (.ty yI)))), [.cells 132 0 (.cons (.ty (.ptr yprogram)) (.cons (.own 1) (.cons (.ty (.slice yI)) (.cons (.own 2) (.cons (.own 3) (.cons (.ty yI) (.ty yI))))))), .list 2 yI [], .list 2 yI [], .list 86 (.pair yI (.pair yI (.pair yI (.pair (.own 0) (.own 1))))) [4, 5], .many 2 yI, .many 3 yI, .list 86 yFrame []]⟩
noncomputable def l0.x : SSh := ⟨[3], (.own 6), [.cells 132 0 (.cons (.ty (.ptr yprogram)) (.cons (.own 1) (.cons (.ty (.slice yI)) (.cons (.own 2) (.cons (.own 3) (.cons (.ty yI) (.ty yI))))))), .list 2 yI [], .list 2 yI [], .list 86 (.pair yI (.pair yI (.pair yI (.pair (.own 0) (.own 1))))) [4, 5], .many 2 yI, .many 3 yI, .list 86 yFrame []]⟩
noncomputable def l0.cx : l0.h.I → (List LFrame) → l0.x.I := fun x r => ((), ((x.2.1.1, ((), (x.2.1.2.2.1, ((), ((), (x.2.1.2.2.2.2.2.1, x.2.1.2.2.2.2.2.2)))))), (x.2.2.1, (x.2.2.2.1, (x.2.2.2.2.1, (x.2.2.2.2.2.1, (x.2.2.2.2.2.2.1, (r, ()))))))))
noncomputable def l0.f (K : Nat) : Nat → Int → Int → List (Int × Int × Int × Nat × Nat) → List (List Int) → List (List Int) → List LFrame → Option (List LFrame)
  | 0, _, _, _, _, _, _ => none
  | k + 1, a0, a1, a8, a9, a10, a11 => bif decide (a1 < a0) then bif decide ((0 : Int) ≤ a1) then bif a1.toNat.blt a8.length then a8[a1.toNat]?.bind fun t => (vm_Frame_copied.f K t.2.2.2.1 t.2.2.2.2 a9 a10).bind fun t_1 => bif (a11.length + [(t.1, t.2.1, t.2.2.1, t_1.1, t_1.2)].length).ble (100000 : Nat) then l0.f K k a0 (IntKind.i64.wrap (a1 + (1 : Int))) a8 a9 a10 (a11 ++ [(t.1, t.2.1, t.2.2.1, t_1.1, t_1.2)]) else none else none else none else some a11
noncomputable def l0.F (K : Nat) (k : Nat) : l0.h.I → Option (List LFrame) := fun x => l0.f K k x.1.2.2.1 x.1.2.2.2 x.2.2.2.2.1 x.2.2.2.2.2.1 x.2.2.2.2.2.2.1 x.2.2.2.2.2.2.2.1
noncomputable def l0.lp {α : Type} (K : Nat) : St → Kn α → Option α := lpX 6 24 0 l0.h l0.x (l0.F K K) l0.cx
theorem l0.ok {α : Type} (K : Nat) : LoopOk (α := α) M 6 (nthLoop Tryz.f28 0) (l0.lp K) := lpX_okS (C := (C K)) (LP := noLoops) (RF := noRefit) (CP := noCuts) (L := 20) callsE_ok mxd noRefit_ok noCuts_ok (noL (by kernel_rfl)) (lb rfl) (lb rfl) (fun x => rfl) fun k x => by
  rw [withCv_def]
  unfold l0.F
  rw [l0.f]
  try simp only [el]
  kernel_rfl
noncomputable def f (K : Nat) (a6 : List (Int × Int × Int × Nat × Nat)) (a7 : List (List Int)) (a8 : List (List Int)) : Option (List LFrame) := l0.f K K (↑a6.length : Int) (0 : Int) a6 a7 a8 []
noncomputable def F (K : Nat) : sig.In → Option (List LFrame) := fun x => f K x.2.2.2.2.1 x.2.2.2.2.2.1 x.2.2.2.2.2.2.1
noncomputable def cv : sig.In → (List LFrame) → sig.Ou := fun x r => (r, ((x.2.1.1, ((), (x.2.1.2.2.1, ((), ((), (x.2.1.2.2.2.2.2.1, x.2.1.2.2.2.2.2.2)))))), (x.2.2.1, (x.2.2.2.1, (x.2.2.2.2.1, (x.2.2.2.2.2.1, (x.2.2.2.2.2.2.1, ())))))))
theorem rets (K : Nat) : ∀ x y, withCv (F K) cv x = some y → Rets M 28 sig x y := runF_retsS (C := (C K)) (LP := (lpPut 5 (l0.lp K) noLoops)) (RF := noRefit) (CP := noCuts) callsE_ok mxd noRefit_ok noCuts_ok (show LoopsOk M 6 (lpPut 5 (l0.lp K) noLoops) (loopsOf (bodyOf Tryz.f28)) from (show loopsOf (bodyOf Tryz.f28) = [nthLoop Tryz.f28 0] by kernel_rfl) ▸ (loopsOk_put (key := 5) (by kernel_rfl) (l0.ok K) noLoops_ok (by kernel_rfl))) (lb rfl) Tryz.func28 (by kernel_rfl) fun x => by
  rw [withCv_def]
  unfold F f
  try simp only [el]
  kernel_rfl
noncomputable def e (K : Nat) : En M := ⟨28, sig, _, F K, cv, by rfl, Tryz.f28, Tryz.func28, by kernel_rfl, rfl, rets K⟩
end vm_Machine_Frames
namespace flow_Env_block
noncomputable def sig : Sig := ⟨(.cons (.agg (.cons (.ty (.slice yI)) (.cons (.ty (.slice yFunc)) (.cons (.ty (.slice yImport)) (.cons (.ty (.slice yValue)) (.ty (.slice ySum))))))) (.cons (.ty yI) (.ty yI))), [], (.cons (.agg (.cons (.ty (.slice yInsn)) (.cons (.ty yI) (.cons (.ty yI) (.cons (.ty yI) (.ty yI)))))) (.ty .bool)), []⟩
noncomputable def C {α : Type} (K : Nat) : CallsBy α := callsE (M := M) []
noncomputable def CP {α : Type} (K : Nat) : CutBy α := (cpPut 1 (rpCut M bindC [.bool] [33] (C K) (eqBy M.P)) noCuts)
theorem CP_ok {α : Type} (K : Nat) : CutsOk (α := α) M 0 (CP K) := (cpPut_ok (rpCut_ok callsE_ok (eqBy_ok _) mxd) noCuts_ok)
noncomputable def f (K : Nat) (a1 : List LFunc) (a5 : Int) (a6 : Int) : Option (List LInsn × Int × Int × Int × Int × Bool) := bindC (bif decide (a5 < (0 : Int)) then some true else bif decide (a5 ≥ (↑a1.length : Int)) then some true else bif decide (a6 < (0 : Int)) then some true else bif decide ((0 : Int) ≤ a5) && true then a1[a5.toNat]?.bind fun t => some (decide (a6 ≥ (↑(List.length t.2.2.2) : Int))) else none) fun t => bif t then some ([], (0 : Int), (0 : Int), (0 : Int), (0 : Int), false) else bif decide ((0 : Int) ≤ a5) && true then a1[a5.toNat]?.bind fun t => bif decide ((0 : Int) ≤ a6) && true then t.2.2.2[a6.toNat]?.bind fun t => some (t.1, t.2.1, t.2.2.1, t.2.2.2.1, t.2.2.2.2, true) else none else none
noncomputable def F (K : Nat) : sig.In → Option (List LInsn × Int × Int × Int × Int × Bool) := fun x => f K x.1.1.2.1 x.1.2.1 x.1.2.2
noncomputable def cv : sig.In → (List LInsn × Int × Int × Int × Int × Bool) → sig.Ou := fun x r => (((r.1, (r.2.1, (r.2.2.1, (r.2.2.2.1, r.2.2.2.2.1)))), r.2.2.2.2.2), ())
theorem rets (K : Nat) : ∀ x y, withCv (F K) cv x = some y → Rets M 76 sig x y := runF_retsS (C := (C K)) (LP := noLoops) (RF := noRefit) (CP := (CP K)) callsE_ok mxd noRefit_ok (CP_ok K) (noL (by kernel_rfl)) (lb rfl) Tryz.func76 (by kernel_rfl) fun x => by
  rw [withCv_def]
  unfold F f
  try simp only [el]
  kernel_rfl
noncomputable def e (K : Nat) : En M := ⟨76, sig, _, F K, cv, by rfl, Tryz.f76, Tryz.func76, by kernel_rfl, rfl, rets K⟩
end flow_Env_block
noncomputable def slices_Clone_fact_Value_fact_Value.sig : Sig := ⟨(.ty (.slice yValue)), [], (.ty (.slice yValue)), []⟩
noncomputable def slices_Clone_fact_Value_fact_Value.f (K : Nat) (a0 : List LValue) : Option (List LValue) := bif (0 + a0.length).ble 100000 then some a0 else none
noncomputable def slices_Clone_fact_Value_fact_Value.F (K : Nat) : slices_Clone_fact_Value_fact_Value.sig.In → Option (List LValue) := fun x => slices_Clone_fact_Value_fact_Value.f K x.1
noncomputable def slices_Clone_fact_Value_fact_Value.cv : slices_Clone_fact_Value_fact_Value.sig.In → (List LValue) → slices_Clone_fact_Value_fact_Value.sig.Ou := fun x r => (r, ())
theorem slices_Clone_fact_Value_fact_Value.rets (K : Nat) : ∀ x y, withCv (slices_Clone_fact_Value_fact_Value.F K) slices_Clone_fact_Value_fact_Value.cv x = some y → Rets M 116 slices_Clone_fact_Value_fact_Value.sig x y := fun x y h =>
  clone_rets (M := M) (g := slices_Clone_fact_Value_fact_Value.sig) (T := yValue) (e := 68) (n := 8) (L := 1) (x := x.1) (args0 := x.1) (G := fun xs => bif (0 + xs.length).ble 100000 then some (slices_Clone_fact_Value_fact_Value.cv (xs, ()) xs) else none) (by kernel_rfl) Tryz.func116 (show Tryz.f116.body = some (.seq _ (.seq (.seq (.region _ #[⟨some 3, .move (.tmp 0), _, _, _, none⟩, ⟨some 4, .binOp .eql _ (.tmp 3) (.const (.slice none 0 0)) _, _, _, _, none⟩] false) _) _)) from rfl)
    (by kernel_rfl) rfl rfl (by kernel_rfl) (by decide) (by kernel_rfl) (by kernel_rfl) (by kernel_rfl) (by kernel_rfl) (by kernel_rfl) (by kernel_rfl) (Eq.trans (show (bif (0 + x.1.length).ble 100000 then some (slices_Clone_fact_Value_fact_Value.cv x x.1) else none) = (bif (0 + x.1.length).ble 100000 then some x.1 else none).bind fun r => some (slices_Clone_fact_Value_fact_Value.cv x r) by rw [cond_bind]; rfl) h) x.2
noncomputable def slices_Clone_fact_Value_fact_Value.e (K : Nat) : En M := ⟨116, slices_Clone_fact_Value_fact_Value.sig, _, slices_Clone_fact_Value_fact_Value.F K, slices_Clone_fact_Value_fact_Value.cv, by rfl, Tryz.f116, Tryz.func116, by kernel_rfl, rfl, slices_Clone_fact_Value_fact_Value.rets K⟩
noncomputable def slices_Clone_fact_Value_fact_Value_own.sig : Sig := ⟨(.ty (.slice yValue)), [], (.own 0), [.list 68 yValue []]⟩
noncomputable def slices_Clone_fact_Value_fact_Value_own.f (K : Nat) (a0 : List LValue) : Option (List LValue) := bif (0 + a0.length).ble 100000 then some a0 else none
noncomputable def slices_Clone_fact_Value_fact_Value_own.F (K : Nat) : slices_Clone_fact_Value_fact_Value_own.sig.In → Option (List LValue) := fun x => slices_Clone_fact_Value_fact_Value_own.f K x.1
noncomputable def slices_Clone_fact_Value_fact_Value_own.cv : slices_Clone_fact_Value_fact_Value_own.sig.In → (List LValue) → slices_Clone_fact_Value_fact_Value_own.sig.Ou := fun x r => ((), (r, ()))
theorem slices_Clone_fact_Value_fact_Value_own.rets (K : Nat) : ∀ x y, withCv (slices_Clone_fact_Value_fact_Value_own.F K) slices_Clone_fact_Value_fact_Value_own.cv x = some y → Rets M 116 slices_Clone_fact_Value_fact_Value_own.sig x y := fun x y h =>
  clone_rets (M := M) (g := slices_Clone_fact_Value_fact_Value_own.sig) (T := yValue) (e := 68) (n := 8) (L := 1) (x := x.1) (args0 := x.1) (G := fun xs => bif (0 + xs.length).ble 100000 then some (slices_Clone_fact_Value_fact_Value_own.cv (xs, ()) xs) else none) (by kernel_rfl) Tryz.func116 (show Tryz.f116.body = some (.seq _ (.seq (.seq (.region _ #[⟨some 3, .move (.tmp 0), _, _, _, none⟩, ⟨some 4, .binOp .eql _ (.tmp 3) (.const (.slice none 0 0)) _, _, _, _, none⟩] false) _) _)) from rfl)
    (by kernel_rfl) rfl rfl (by kernel_rfl) (by decide) (by kernel_rfl) (by kernel_rfl) (by kernel_rfl) (by kernel_rfl) (by kernel_rfl) (by kernel_rfl) (Eq.trans (show (bif (0 + x.1.length).ble 100000 then some (slices_Clone_fact_Value_fact_Value_own.cv x x.1) else none) = (bif (0 + x.1.length).ble 100000 then some x.1 else none).bind fun r => some (slices_Clone_fact_Value_fact_Value_own.cv x r) by rw [cond_bind]; rfl) h) x.2
noncomputable def slices_Clone_fact_Value_fact_Value_own.e (K : Nat) : En M := ⟨116, slices_Clone_fact_Value_fact_Value_own.sig, _, slices_Clone_fact_Value_fact_Value_own.F K, slices_Clone_fact_Value_fact_Value_own.cv, by rfl, Tryz.f116, Tryz.func116, by kernel_rfl, rfl, slices_Clone_fact_Value_fact_Value_own.rets K⟩
noncomputable def slices_Clone_fact_Value_fact_Value_in.sig : Sig := ⟨(.own 0), [.list 68 yValue []], (.ty (.slice yValue)), [.list 68 yValue []]⟩
noncomputable def slices_Clone_fact_Value_fact_Value_in.f (K : Nat) (a0 : List LValue) : Option (List LValue) := bif (0 + a0.length).ble 100000 then some a0 else none
noncomputable def slices_Clone_fact_Value_fact_Value_in.F (K : Nat) : slices_Clone_fact_Value_fact_Value_in.sig.In → Option (List LValue) := fun x => slices_Clone_fact_Value_fact_Value_in.f K x.2.1
noncomputable def slices_Clone_fact_Value_fact_Value_in.cv : slices_Clone_fact_Value_fact_Value_in.sig.In → (List LValue) → slices_Clone_fact_Value_fact_Value_in.sig.Ou := fun x r => (r, (x.2.1, ()))
theorem slices_Clone_fact_Value_fact_Value_in.rets (K : Nat) : ∀ x y, withCv (slices_Clone_fact_Value_fact_Value_in.F K) slices_Clone_fact_Value_fact_Value_in.cv x = some y → Rets M 116 slices_Clone_fact_Value_fact_Value_in.sig x y := fun x y h =>
  cloneO_rets (M := M) (g := slices_Clone_fact_Value_fact_Value_in.sig) (T := yValue) (e := 68) (n := 8) (L := 1) (x := x.2.1) (args0 := x.1) (z := x.2) (G := fun xs => bif (0 + xs.length).ble 100000 then some (slices_Clone_fact_Value_fact_Value_in.cv ((), (xs, ())) xs) else none) (by kernel_rfl) Tryz.func116 (show Tryz.f116.body = some (.seq _ (.seq (.seq (.region _ #[⟨some 3, .move (.tmp 0), _, _, _, none⟩, ⟨some 4, .binOp .eql _ (.tmp 3) (.const (.slice none 0 0)) _, _, _, _, none⟩] false) _) _)) from rfl)
    (by kernel_rfl) rfl rfl rfl (by decide) (by decide) (by kernel_rfl) (by decide) (by kernel_rfl) (by kernel_rfl) (by kernel_rfl) (by kernel_rfl) (by kernel_rfl) (by kernel_rfl) (Eq.trans (show (bif (0 + x.2.1.length).ble 100000 then some (slices_Clone_fact_Value_fact_Value_in.cv x x.2.1) else none) = (bif (0 + x.2.1.length).ble 100000 then some x.2.1 else none).bind fun r => some (slices_Clone_fact_Value_fact_Value_in.cv x r) by rw [cond_bind]; rfl) h)
noncomputable def slices_Clone_fact_Value_fact_Value_in.e (K : Nat) : En M := ⟨116, slices_Clone_fact_Value_fact_Value_in.sig, _, slices_Clone_fact_Value_fact_Value_in.F K, slices_Clone_fact_Value_fact_Value_in.cv, by rfl, Tryz.f116, Tryz.func116, by kernel_rfl, rfl, slices_Clone_fact_Value_fact_Value_in.rets K⟩
namespace state_Copy
noncomputable def sig : Sig := ⟨(.agg (.cons (.ty .bool) (.cons (.ty (.slice yValue)) (.ty (.slice (.slice yI)))))), [], (.agg (.cons (.ty .bool) (.cons (.ty (.slice yValue)) (.ty (.slice (.slice yI)))))), []⟩
noncomputable def C {α : Type} (K : Nat) : CallsBy α := callsE (M := M) [slices_Clone_fact_Value_fact_Value_own.e K, slices_Clone_int_int.e K]
noncomputable def l0.h : SSh := ⟨[2, 3, 13, 14, 15], (.cons (.ptr 0 0) (.cons (.ptr 1 0) (.cons (.ty (.slice (.slice yI))) (.cons (.ty yI) (.ty yI))))), [.cells 79 0 (.cons (.ty .bool) (.cons (.own 2) (.own 3))), .cells 79 0 (.cons (.ty .bool) (.cons (.own 4) (.own 5))), .list 68 yValue [], .list 84 (.slice yI) [], .list 68 yValue [], .list 84 (.slice yI) []]⟩
noncomputable def l0.x : SSh := ⟨[2, 3], (.cons (.ptr 0 0) (.ptr 1 0)), [.cells 79 0 (.cons (.ty .bool) (.cons (.own 2) (.own 3))), .cells 79 0 (.cons (.ty .bool) (.cons (.own 4) (.own 5))), .list 68 yValue [], .list 84 (.slice yI) [], .list 68 yValue [], .list 84 (.slice yI) []]⟩
noncomputable def l0.cx : l0.h.I → (List (List Int)) → l0.x.I := fun x r => (((), ()), ((x.2.1.1, ((), ())), ((x.2.2.1.1, ((), ())), (x.2.2.2.1, (x.2.2.2.2.1, (x.2.2.2.2.2.1, (r, ())))))))
noncomputable def l0.f (K : Nat) : Nat → List (List Int) → Int → Int → List (List Int) → Option (List (List Int))
  | 0, _, _, _, _ => none
  | k + 1, a0, a1, a2, a8 => bif decide (a2 < a1) then bif decide ((0 : Int) ≤ a2) && true then a0[a2.toNat]?.bind fun t => (slices_Clone_int_int.f K t).bind fun t => bif (a8.length + [t].length).ble (100000 : Nat) then l0.f K k a0 a1 (IntKind.i64.wrap (a2 + (1 : Int))) (a8 ++ [t]) else none else none else some a8
noncomputable def l0.F (K : Nat) (k : Nat) : l0.h.I → Option (List (List Int)) := fun (x : ((Unit × (Unit × ((List (List Int)) × (Int × Int)))) × ((Bool × (Unit × Unit)) × ((Bool × (Unit × Unit)) × ((List LValue) × ((List (List Int)) × ((List LValue) × ((List (List Int)) × Unit)))))))) => l0.f K k x.1.2.2.1 x.1.2.2.2.1 x.1.2.2.2.2 x.2.2.2.2.2.2.1
noncomputable def l0.lp {α : Type} (K : Nat) : St → Kn α → Option α := lpX 0 28 0 l0.h l0.x (l0.F K K) l0.cx
theorem l0.ok {α : Type} (K : Nat) : LoopOk (α := α) M 0 (nthLoop Tryz.f77 0) (l0.lp K) := lpX_okS (C := (C K)) (LP := noLoops) (RF := noRefit) (CP := noCuts) (L := 20) callsE_ok mxd noRefit_ok noCuts_ok (noL (by kernel_rfl)) (lb rfl) (lb rfl) (fun x => rfl) fun k (x : ((Unit × (Unit × ((List (List Int)) × (Int × Int)))) × ((Bool × (Unit × Unit)) × ((Bool × (Unit × Unit)) × ((List LValue) × ((List (List Int)) × ((List LValue) × ((List (List Int)) × Unit)))))))) => by
  refine Eq.trans ?_ withCv_def.symm
  unfold l0.F
  rw [l0.f]
  try simp only [el]
  kernel_rfl
noncomputable def f (K : Nat) (a1 : List LValue) (a2 : List (List Int)) : Option (List LValue × List (List Int)) := (slices_Clone_fact_Value_fact_Value_own.f K a1).bind fun t => (l0.f K K a2 (↑a2.length : Int) (0 : Int) []).bind fun t_1 => some (t, t_1)
noncomputable def F (K : Nat) : sig.In → Option (List LValue × List (List Int)) := fun (x : ((Bool × ((List LValue) × (List (List Int)))) × Unit)) => f K x.1.2.1 x.1.2.2
noncomputable def cv : sig.In → (List LValue × List (List Int)) → sig.Ou := fun x r => ((x.1.1, (r.1, r.2)), ())
theorem rets (K : Nat) : ∀ x y, withCv (F K) cv x = some y → Rets M 77 sig x y := runF_retsS (C := (C K)) (LP := (lpPut 3 (l0.lp K) noLoops)) (RF := noRefit) (CP := noCuts) callsE_ok mxd noRefit_ok noCuts_ok (show LoopsOk M 0 (lpPut 3 (l0.lp K) noLoops) (loopsOf (bodyOf Tryz.f77)) from (show loopsOf (bodyOf Tryz.f77) = [nthLoop Tryz.f77 0] by kernel_rfl) ▸ (loopsOk_put (key := 3) (by kernel_rfl) (l0.ok K) noLoops_ok (by kernel_rfl))) (lb rfl) Tryz.func77 (by kernel_rfl) fun (x : ((Bool × ((List LValue) × (List (List Int)))) × Unit)) => by
  refine Eq.trans ?_ withCv_def.symm
  unfold F f
  try simp only [el]
  kernel_rfl
noncomputable def e (K : Nat) : En M := ⟨77, sig, _, F K, cv, by rfl, Tryz.f77, Tryz.func77, by kernel_rfl, rfl, rets K⟩
end state_Copy
namespace state_Copy_own
noncomputable def sig : Sig := ⟨(.agg (.cons (.ty .bool) (.cons (.ty (.slice yValue)) (.ty (.slice (.slice yI)))))), [], (.agg (.cons (.ty .bool) (.cons (.own 0) (.own 1)))), [.list 68 yValue [], .list 84 (.slice yI) []]⟩
noncomputable def C {α : Type} (K : Nat) : CallsBy α := callsE (M := M) [slices_Clone_fact_Value_fact_Value_own.e K, slices_Clone_int_int.e K]
noncomputable def l0.h : SSh := ⟨[2, 3, 13, 14, 15], (.cons (.ptr 0 0) (.cons (.ptr 1 0) (.cons (.ty (.slice (.slice yI))) (.cons (.ty yI) (.ty yI))))), [.cells 79 0 (.cons (.ty .bool) (.cons (.own 2) (.own 3))), .cells 79 0 (.cons (.ty .bool) (.cons (.own 4) (.own 5))), .list 68 yValue [], .list 84 (.slice yI) [], .list 68 yValue [], .list 84 (.slice yI) []]⟩
noncomputable def l0.x : SSh := ⟨[2, 3], (.cons (.ptr 0 0) (.ptr 1 0)), [.cells 79 0 (.cons (.ty .bool) (.cons (.own 2) (.own 3))), .cells 79 0 (.cons (.ty .bool) (.cons (.own 4) (.own 5))), .list 68 yValue [], .list 84 (.slice yI) [], .list 68 yValue [], .list 84 (.slice yI) []]⟩
noncomputable def l0.cx : l0.h.I → (List (List Int)) → l0.x.I := fun x r => (((), ()), ((x.2.1.1, ((), ())), ((x.2.2.1.1, ((), ())), (x.2.2.2.1, (x.2.2.2.2.1, (x.2.2.2.2.2.1, (r, ())))))))
noncomputable def l0.f (K : Nat) : Nat → List (List Int) → Int → Int → List (List Int) → Option (List (List Int))
  | 0, _, _, _, _ => none
  | k + 1, a0, a1, a2, a8 => bif decide (a2 < a1) then bif decide ((0 : Int) ≤ a2) && true then a0[a2.toNat]?.bind fun t => (slices_Clone_int_int.f K t).bind fun t => bif (a8.length + [t].length).ble (100000 : Nat) then l0.f K k a0 a1 (IntKind.i64.wrap (a2 + (1 : Int))) (a8 ++ [t]) else none else none else some a8
noncomputable def l0.F (K : Nat) (k : Nat) : l0.h.I → Option (List (List Int)) := fun (x : ((Unit × (Unit × ((List (List Int)) × (Int × Int)))) × ((Bool × (Unit × Unit)) × ((Bool × (Unit × Unit)) × ((List LValue) × ((List (List Int)) × ((List LValue) × ((List (List Int)) × Unit)))))))) => l0.f K k x.1.2.2.1 x.1.2.2.2.1 x.1.2.2.2.2 x.2.2.2.2.2.2.1
noncomputable def l0.lp {α : Type} (K : Nat) : St → Kn α → Option α := lpX 0 28 0 l0.h l0.x (l0.F K K) l0.cx
theorem l0.ok {α : Type} (K : Nat) : LoopOk (α := α) M 0 (nthLoop Tryz.f77 0) (l0.lp K) := lpX_okS (C := (C K)) (LP := noLoops) (RF := noRefit) (CP := noCuts) (L := 20) callsE_ok mxd noRefit_ok noCuts_ok (noL (by kernel_rfl)) (lb rfl) (lb rfl) (fun x => rfl) fun k (x : ((Unit × (Unit × ((List (List Int)) × (Int × Int)))) × ((Bool × (Unit × Unit)) × ((Bool × (Unit × Unit)) × ((List LValue) × ((List (List Int)) × ((List LValue) × ((List (List Int)) × Unit)))))))) => by
  refine Eq.trans ?_ withCv_def.symm
  unfold l0.F
  rw [l0.f]
  try simp only [el]
  kernel_rfl
noncomputable def f (K : Nat) (a1 : List LValue) (a2 : List (List Int)) : Option (List LValue × List (List Int)) := (slices_Clone_fact_Value_fact_Value_own.f K a1).bind fun t => (l0.f K K a2 (↑a2.length : Int) (0 : Int) []).bind fun t_1 => some (t, t_1)
noncomputable def F (K : Nat) : sig.In → Option (List LValue × List (List Int)) := fun (x : ((Bool × ((List LValue) × (List (List Int)))) × Unit)) => f K x.1.2.1 x.1.2.2
noncomputable def cv : sig.In → (List LValue × List (List Int)) → sig.Ou := fun x r => ((x.1.1, ((), ())), (r.1, (r.2, ())))
theorem rets (K : Nat) : ∀ x y, withCv (F K) cv x = some y → Rets M 77 sig x y := runF_retsS (C := (C K)) (LP := (lpPut 3 (l0.lp K) noLoops)) (RF := noRefit) (CP := noCuts) callsE_ok mxd noRefit_ok noCuts_ok (show LoopsOk M 0 (lpPut 3 (l0.lp K) noLoops) (loopsOf (bodyOf Tryz.f77)) from (show loopsOf (bodyOf Tryz.f77) = [nthLoop Tryz.f77 0] by kernel_rfl) ▸ (loopsOk_put (key := 3) (by kernel_rfl) (l0.ok K) noLoops_ok (by kernel_rfl))) (lb rfl) Tryz.func77 (by kernel_rfl) fun (x : ((Bool × ((List LValue) × (List (List Int)))) × Unit)) => by
  refine Eq.trans ?_ withCv_def.symm
  unfold F f
  try simp only [el]
  kernel_rfl
noncomputable def e (K : Nat) : En M := ⟨77, sig, _, F K, cv, by rfl, Tryz.f77, Tryz.func77, by kernel_rfl, rfl, rets K⟩
end state_Copy_own
end
end Go.Proofs.YtdjkdmjdcdljmaaGreat.AT
