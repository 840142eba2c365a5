/- Written by a program of this session: what Go functions come to, as plain functions, each shown by the second machine. No condition. -/
import Derived.Test.YtdjkdmjdcdljmaaGreatAR0
namespace Go.Proofs.YtdjkdmjdcdljmaaGreat.AR
open Go.Proofs.YtdjkdmjdcdljmaaGreatX
noncomputable section
set_option linter.unusedVariables false
set_option linter.unusedSimpArgs false
set_option maxRecDepth 1000000
set_option maxHeartbeats 4000000
namespace wire_Reader_Section
/-! ### wire_Reader_Section: function 167 -/
noncomputable def sig : Sig := ⟨(.ptr 0 0), [.cells 199 0 (.cons (.ty (.slice (.int .u8))) (.ty yI))], (.cons (.ptr 1 0) (.ty .err)), [.cells 199 0 (.cons (.ty (.slice (.int .u8))) (.ty yI)), .cells 199 0 (.cons (.ty (.slice (.int .u8))) (.ty yI))]⟩
noncomputable def RF : RefitBy := noRefit
theorem RF_ok : RefitOk M 1 RF := noRefit_ok
noncomputable def C {α : Type} (K : Nat) : CallsBy α := (entryD 192 wire_Reader_look.sig (wire_Reader_look.F K) wire_Reader_look.cv (entryD 162 wire_Reader_wrong.sig (wire_Reader_wrong.F K) wire_Reader_wrong.cv (entryD 163 wire_Reader_Left.sig (wire_Reader_Left.F K) wire_Reader_Left.cv noCalls)))
theorem C_ok {α : Type} (K : Nat) : CallsOk (α := α) M (C K) := (entryD_ok (entryD_ok (entryD_ok noCalls_ok (by rfl) Tryz.func163 (by kernel_rfl) rfl (wire_Reader_Left.rets K)) (by rfl) Tryz.func162 (by kernel_rfl) rfl (wire_Reader_wrong.rets K)) (by rfl) Tryz.func192 (by kernel_rfl) rfl (wire_Reader_look.rets K))
noncomputable def CP {α : Type} (K : Nat) : CutBy α := noCuts
theorem CP_ok {α : Type} (K : Nat)  : CutsOk (α := α) M 1 (CP K) := noCuts_ok
noncomputable def f (K : Nat) (a0 : List Int) (a1 : Int) : Option (Err × Int × List Int × Int) := (wire_Reader_look.f K (18446744073709551615 : Int) a0 a1).bind fun t => bif t.2.2 != (0 : Int) then (wire_Reader_wrong.f K t.2.2 a1).bind fun t => none else (wire_Reader_Left.f K a0 a1).bind fun t_1 => bif decide (t.1 > IntKind.u64.wrap (IntKind.i64.wrap (t_1 - t.2.1))) then (wire_Reader_wrong.f K (2 : Int) a1).bind fun t => none else bif decide ((↑(0 : Nat) : Int) ≤ IntKind.i64.wrap (IntKind.i64.wrap (a1 + t.2.1) + IntKind.i64.wrap t.1)) && decide (IntKind.i64.wrap (IntKind.i64.wrap (a1 + t.2.1) + IntKind.i64.wrap t.1) ≤ (↑a0.length : Int)) && true then some (Err.nil, IntKind.i64.wrap (a1 + IntKind.i64.wrap (t.2.1 + IntKind.i64.wrap t.1)), List.drop (0 : Nat) (List.take (IntKind.i64.wrap (IntKind.i64.wrap (a1 + t.2.1) + IntKind.i64.wrap t.1)).toNat a0), IntKind.i64.wrap (a1 + t.2.1)) else none
noncomputable def F (K : Nat) : sig.In → Option (Err × Int × List Int × Int) := fun x => f K x.2.1.1 x.2.1.2
noncomputable def cv : sig.In → (Err × Int × List Int × Int) → sig.Ou := fun x r => (((), r.1), ((x.2.1.1, r.2.1), ((r.2.2.1, r.2.2.2), ())))
noncomputable def LP {α : Type} (K : Nat) : LoopsBy α := noLoops
theorem eq (K : Nat) (a0 : List Int) (a1 : Int) : runF M sig (C K) (eqBy M.P) (LP K) RF (CP K) 20 Tryz.f167 (bodyOf Tryz.f167) ((), ((a0, a1), ())) = (f K a0 a1).bind fun r => some (cv ((), ((a0, a1), ())) r) := by
  unfold f
  try simp only [el]
  kernel_rfl
theorem rets (K : Nat) : ∀ x y, withCv (F K) cv x = some y → Rets M 167 sig x y := fun x y h => runF_rets (L := 20) (C_ok K) (eqBy_ok _) (by kernel_rfl) RF_ok (CP_ok K) (show LoopsOk M 1 (LP K) (loopsOf (bodyOf Tryz.f167)) from (show loopsOf (bodyOf Tryz.f167) = [] by kernel_rfl) ▸ noLoops_ok) (Nat.le_of_ble_eq_true rfl) Tryz.func167 (by kernel_rfl) ((eq K x.2.1.1 x.2.1.2).trans h)
end wire_Reader_Section
namespace code_taker_name
/-! ### code_taker_name: function 146 -/
noncomputable def sig : Sig := ⟨(.ptr 0 0), [.cells 196 0 (.cons (.ptr 1 0) (.ty .err)), .cells 199 0 (.cons (.ty (.slice (.int .u8))) (.ty yI))], (.ty .str), [.cells 196 0 (.cons (.ptr 1 0) (.ty .err)), .cells 199 0 (.cons (.ty (.slice (.int .u8))) (.ty yI))]⟩
noncomputable def RF : RefitBy := noRefit
theorem RF_ok : RefitOk M 2 RF := noRefit_ok
noncomputable def C {α : Type} (K : Nat) : CallsBy α := (entryD 167 wire_Reader_Section.sig (wire_Reader_Section.F K) wire_Reader_Section.cv (entryD 163 wire_Reader_Left.sig (wire_Reader_Left.F K) wire_Reader_Left.cv (entryD 142 wire_Reader_Raw.sig (wire_Reader_Raw.F K) wire_Reader_Raw.cv noCalls)))
theorem C_ok {α : Type} (K : Nat) : CallsOk (α := α) M (C K) := (entryD_ok (entryD_ok (entryD_ok noCalls_ok (by rfl) Tryz.func142 (by kernel_rfl) rfl (wire_Reader_Raw.rets K)) (by rfl) Tryz.func163 (by kernel_rfl) rfl (wire_Reader_Left.rets K)) (by rfl) Tryz.func167 (by kernel_rfl) rfl (wire_Reader_Section.rets K))
noncomputable def CP {α : Type} (K : Nat) : CutBy α := noCuts
theorem CP_ok {α : Type} (K : Nat)  : CutsOk (α := α) M 2 (CP K) := noCuts_ok
noncomputable def f (K : Nat) (a0 : Err) (a1 : List Int) (a2 : Int) : Option (ByteArray × Err × Int) := bif bif true then !a0.isNil else a0.isNil then some (ByteArray.mk #[], a0, a2) else (wire_Reader_Section.f K a1 a2).bind fun t => bif bif true then !t.1.isNil else t.1.isNil then some (ByteArray.mk #[], t.1, t.2.1) else (wire_Reader_Left.f K t.2.2.1 t.2.2.2).bind fun t_1 => (wire_Reader_Raw.f K t_1 t.2.2.1 t.2.2.2).bind fun t_2 => some (strOf t_2.1, a0, t.2.1)
noncomputable def F (K : Nat) : sig.In → Option (ByteArray × Err × Int) := fun x => f K x.2.1.2 x.2.2.1.1 x.2.2.1.2
noncomputable def cv : sig.In → (ByteArray × Err × Int) → sig.Ou := fun x r => (r.1, (((), r.2.1), ((x.2.2.1.1, r.2.2), ())))
noncomputable def LP {α : Type} (K : Nat) : LoopsBy α := noLoops
theorem eq (K : Nat) (a0 : Err) (a1 : List Int) (a2 : Int) : runF M sig (C K) (eqBy M.P) (LP K) RF (CP K) 20 Tryz.f146 (bodyOf Tryz.f146) ((), (((), a0), ((a1, a2), ()))) = (f K a0 a1 a2).bind fun r => some (cv ((), (((), a0), ((a1, a2), ()))) r) := by
  unfold f
  try simp only [el]
  kernel_rfl
theorem rets (K : Nat) : ∀ x y, withCv (F K) cv x = some y → Rets M 146 sig x y := fun x y h => runF_rets (L := 20) (C_ok K) (eqBy_ok _) (by kernel_rfl) RF_ok (CP_ok K) (show LoopsOk M 2 (LP K) (loopsOf (bodyOf Tryz.f146)) from (show loopsOf (bodyOf Tryz.f146) = [] by kernel_rfl) ▸ noLoops_ok) (Nat.le_of_ble_eq_true rfl) Tryz.func146 (by kernel_rfl) ((eq K x.2.1.2 x.2.2.1.1 x.2.2.1.2).trans h)
end code_taker_name
namespace wire_Reader_Byte
/-! ### wire_Reader_Byte: function 223 -/
noncomputable def sig : Sig := ⟨(.ptr 0 0), [.cells 199 0 (.cons (.ty (.slice (.int .u8))) (.ty yI))], (.cons (.ty (.int .u8)) (.ty .err)), [.cells 199 0 (.cons (.ty (.slice (.int .u8))) (.ty yI))]⟩
noncomputable def RF : RefitBy := noRefit
theorem RF_ok : RefitOk M 1 RF := noRefit_ok
noncomputable def C {α : Type} (K : Nat) : CallsBy α := (entryD 162 wire_Reader_wrong.sig (wire_Reader_wrong.F K) wire_Reader_wrong.cv noCalls)
theorem C_ok {α : Type} (K : Nat) : CallsOk (α := α) M (C K) := (entryD_ok noCalls_ok (by rfl) Tryz.func162 (by kernel_rfl) rfl (wire_Reader_wrong.rets K))
noncomputable def CP {α : Type} (K : Nat) : CutBy α := noCuts
theorem CP_ok {α : Type} (K : Nat)  : CutsOk (α := α) M 1 (CP K) := noCuts_ok
noncomputable def f (K : Nat) (a0 : List Int) (a1 : Int) : Option (Int × Err × Int) := bif a1 == (↑a0.length : Int) then (wire_Reader_wrong.f K (2 : Int) a1).bind fun t => some ((0 : Int), t, a1) else bif decide ((0 : Int) ≤ IntKind.i64.wrap (IntKind.i64.wrap (a1 + (1 : Int)) - (1 : Int))) && true then a0[(IntKind.i64.wrap (IntKind.i64.wrap (a1 + (1 : Int)) - (1 : Int))).toNat]?.bind fun t => some (t, Err.nil, IntKind.i64.wrap (a1 + (1 : Int))) else none
noncomputable def F (K : Nat) : sig.In → Option (Int × Err × Int) := fun x => f K x.2.1.1 x.2.1.2
noncomputable def cv : sig.In → (Int × Err × Int) → sig.Ou := fun x r => ((r.1, r.2.1), ((x.2.1.1, r.2.2), ()))
noncomputable def LP {α : Type} (K : Nat) : LoopsBy α := noLoops
theorem eq (K : Nat) (a0 : List Int) (a1 : Int) : runF M sig (C K) (eqBy M.P) (LP K) RF (CP K) 20 Tryz.f223 (bodyOf Tryz.f223) ((), ((a0, a1), ())) = (f K a0 a1).bind fun r => some (cv ((), ((a0, a1), ())) r) := by
  unfold f
  try simp only [el]
  kernel_rfl
theorem rets (K : Nat) : ∀ x y, withCv (F K) cv x = some y → Rets M 223 sig x y := fun x y h => runF_rets (L := 20) (C_ok K) (eqBy_ok _) (by kernel_rfl) RF_ok (CP_ok K) (show LoopsOk M 1 (LP K) (loopsOf (bodyOf Tryz.f223)) from (show loopsOf (bodyOf Tryz.f223) = [] by kernel_rfl) ▸ noLoops_ok) (Nat.le_of_ble_eq_true rfl) Tryz.func223 (by kernel_rfl) ((eq K x.2.1.1 x.2.1.2).trans h)
end wire_Reader_Byte
namespace code_taker_kind
/-! ### code_taker_kind: function 215 -/
noncomputable def sig : Sig := ⟨(.cons (.ptr 0 0) (.ty yI)), [.cells 196 0 (.cons (.ptr 1 0) (.ty .err)), .cells 199 0 (.cons (.ty (.slice (.int .u8))) (.ty yI))], (.ty yI), [.cells 196 0 (.cons (.ptr 1 0) (.ty .err)), .cells 199 0 (.cons (.ty (.slice (.int .u8))) (.ty yI))]⟩
noncomputable def RF : RefitBy := noRefit
theorem RF_ok : RefitOk M 2 RF := noRefit_ok
noncomputable def C {α : Type} (K : Nat) : CallsBy α := (entryD 141 wire_Reader_At.sig (wire_Reader_At.F K) wire_Reader_At.cv (entryD 223 wire_Reader_Byte.sig (wire_Reader_Byte.F K) wire_Reader_Byte.cv (entryD 93 fault_At.sig (fault_At.F K) fault_At.cv noCalls)))
theorem C_ok {α : Type} (K : Nat) : CallsOk (α := α) M (C K) := (entryD_ok (entryD_ok (entryD_ok noCalls_ok (by rfl) Tryz.func93 (by kernel_rfl) rfl (fault_At.rets K)) (by rfl) Tryz.func223 (by kernel_rfl) rfl (wire_Reader_Byte.rets K)) (by rfl) Tryz.func141 (by kernel_rfl) rfl (wire_Reader_At.rets K))
noncomputable def CP {α : Type} (K : Nat) : CutBy α := (cpPut 5 (rpCut M bindC [.bool] [37] (C K) (eqBy M.P)) noCuts)
theorem CP_ok {α : Type} (K : Nat)  : CutsOk (α := α) M 2 (CP K) := (cpPut_ok (rpCut_ok (C_ok K) (eqBy_ok _) (by kernel_rfl)) noCuts_ok)
noncomputable def f (K : Nat) (a0 : Int) (a1 : Err) (a2 : List Int) (a3 : Int) : Option (Int × Err × Int) := bif bif true then !a1.isNil else a1.isNil then some ((0 : Int), a1, a3) else (wire_Reader_At.f K).bind fun t => (wire_Reader_Byte.f K a2 a3).bind fun t => bindC (bif bif false then !t.2.1.isNil else t.2.1.isNil then bif decide (t.1 < (1 : Int)) then some true else some (decide (IntKind.i64.wrap t.1 > a0)) else some false) fun t_1 => bif t_1 then (fault_At.f K (Err.no (5 : Int)) [a3]).bind fun t_2 => some (IntKind.i64.wrap t.1, t_2, t.2.2) else some (IntKind.i64.wrap t.1, t.2.1, t.2.2)
noncomputable def F (K : Nat) : sig.In → Option (Int × Err × Int) := fun x => f K x.1.2 x.2.1.2 x.2.2.1.1 x.2.2.1.2
noncomputable def cv : sig.In → (Int × Err × Int) → sig.Ou := fun x r => (r.1, (((), r.2.1), ((x.2.2.1.1, r.2.2), ())))
noncomputable def LP {α : Type} (K : Nat) : LoopsBy α := noLoops
theorem eq (K : Nat) (a0 : Int) (a1 : Err) (a2 : List Int) (a3 : Int) : runF M sig (C K) (eqBy M.P) (LP K) RF (CP K) 20 Tryz.f215 (bodyOf Tryz.f215) (((), a0), (((), a1), ((a2, a3), ()))) = (f K a0 a1 a2 a3).bind fun r => some (cv (((), a0), (((), a1), ((a2, a3), ()))) r) := by
  unfold f
  try simp only [el]
  kernel_rfl
theorem rets (K : Nat) : ∀ x y, withCv (F K) cv x = some y → Rets M 215 sig x y := fun x y h => runF_rets (L := 20) (C_ok K) (eqBy_ok _) (by kernel_rfl) RF_ok (CP_ok K) (show LoopsOk M 2 (LP K) (loopsOf (bodyOf Tryz.f215)) from (show loopsOf (bodyOf Tryz.f215) = [] by kernel_rfl) ▸ noLoops_ok) (Nat.le_of_ble_eq_true rfl) Tryz.func215 (by kernel_rfl) ((eq K x.1.2 x.2.1.2 x.2.2.1.1 x.2.2.1.2).trans h)
end code_taker_kind
namespace code_taker_insn
/-! ### code_taker_insn: function 193 -/
noncomputable def sig : Sig := ⟨(.ptr 0 0), [.cells 196 0 (.cons (.ptr 1 0) (.ty .err)), .cells 199 0 (.cons (.ty (.slice (.int .u8))) (.ty yI))], (.agg (.cons (.ty yI) (.cons (.ty yI) (.cons (.ty yI) (.cons (.ty yI) (.cons (.ty yI) (.ty (.slice yI)))))))), [.cells 196 0 (.cons (.ptr 1 0) (.ty .err)), .cells 199 0 (.cons (.ty (.slice (.int .u8))) (.ty yI))]⟩
noncomputable def RF : RefitBy := noRefit
theorem RF_ok : RefitOk M 2 RF := noRefit_ok
noncomputable def C {α : Type} (K : Nat) : CallsBy α := (entryD 215 code_taker_kind.sig (code_taker_kind.F K) code_taker_kind.cv (entryD 140 code_of.sig (code_of.F K) code_of.cv (entryD 143 code_taker_upto.sig (code_taker_upto.F K) code_taker_upto.cv (entryD 144 code_taker_signed.sig (code_taker_signed.F K) code_taker_signed.cv noCalls))))
theorem C_ok {α : Type} (K : Nat) : CallsOk (α := α) M (C K) := (entryD_ok (entryD_ok (entryD_ok (entryD_ok noCalls_ok (by rfl) Tryz.func144 (by kernel_rfl) rfl (code_taker_signed.rets K)) (by rfl) Tryz.func143 (by kernel_rfl) rfl (code_taker_upto.rets K)) (by rfl) Tryz.func140 (by kernel_rfl) rfl (code_of.rets K)) (by rfl) Tryz.func215 (by kernel_rfl) rfl (code_taker_kind.rets K))
noncomputable def CP {α : Type} (K : Nat) : CutBy α := noCuts
theorem CP_ok {α : Type} (K : Nat)  : CutsOk (α := α) M 2 (CP K) := noCuts_ok
noncomputable def l0.h : SSh := ⟨[0, 2, 3, 42, 43], (.cons (.ptr 0 0) (.cons (.ptr 2 0) (.cons (.ptr 3 0) (.cons (.ty yI) (.ty yI))))), [.cells 196 0 (.cons (.ptr 1 0) (.ty .err)), .cells 199 0 (.cons (.ty (.slice (.int .u8))) (.ty yI)), .cells 144 0 (.cons (.ty yI) (.cons (.ty yI) (.cons (.ty yI) (.cons (.ty yI) (.cons (.ty yI) (.own 4)))))), .cells 144 0 (.cons (.ty yI) (.cons (.ty yI) (.cons (.ty yI) (.cons (.ty yI) (.cons (.ty yI) (.own 5)))))), .list 3 yI [], .list 3 yI []]⟩
noncomputable def l0.x : SSh := ⟨[2, 3], (.cons (.ptr 2 0) (.ptr 3 0)), [.cells 196 0 (.cons (.ptr 1 0) (.ty .err)), .cells 199 0 (.cons (.ty (.slice (.int .u8))) (.ty yI)), .cells 144 0 (.cons (.ty yI) (.cons (.ty yI) (.cons (.ty yI) (.cons (.ty yI) (.cons (.ty yI) (.own 4)))))), .cells 144 0 (.cons (.ty yI) (.cons (.ty yI) (.cons (.ty yI) (.cons (.ty yI) (.cons (.ty yI) (.own 5)))))), .list 3 yI [], .list 3 yI []]⟩
noncomputable def l0.cx : l0.h.I → (Err × Int × List Int) → l0.x.I := fun x r => (((), ()), (((), r.1), ((x.2.2.1.1, r.2.1), ((x.2.2.2.1.1, (x.2.2.2.1.2.1, (x.2.2.2.1.2.2.1, (x.2.2.2.1.2.2.2.1, (x.2.2.2.1.2.2.2.2.1, ()))))), ((x.2.2.2.2.1.1, (x.2.2.2.2.1.2.1, (x.2.2.2.2.1.2.2.1, (x.2.2.2.2.1.2.2.2.1, (x.2.2.2.2.1.2.2.2.2.1, ()))))), (x.2.2.2.2.2.1, (r.2.2, ())))))))
noncomputable def l0.f (K : Nat) : Nat → Int → Int → Err → List Int → Int → List Int → Option (Err × Int × List Int)
  | 0, _, _, _, _, _, _ => none
  | k + 1, a0, a1, a2, a3, a4, a16 => bif decide (a1 < a0) then (code_taker_upto.f K (7 : Int) a2 a3 a4).bind fun t => bif (a16.length + [t.1].length).ble (100000 : Nat) then l0.f K k a0 (IntKind.i64.wrap (a1 + (1 : Int))) t.2.1 a3 t.2.2 (a16 ++ [t.1]) else none else some (a2, a4, a16)
noncomputable def l0.F (K : Nat) (k : Nat) : l0.h.I → Option (Err × Int × List Int) := fun x => l0.f K k x.1.2.2.2.1 x.1.2.2.2.2 x.2.1.2 x.2.2.1.1 x.2.2.1.2 x.2.2.2.2.2.2.1
noncomputable def l0.lp {α : Type} (K : Nat) : St → Kn α → Option α := lpX 2 54 1 l0.h l0.x (l0.F K K) l0.cx
noncomputable def l0.c : Code := nthLoop Tryz.f193 0
noncomputable def l0.LP {α : Type} (K : Nat) : LoopsBy α := noLoops
theorem l0.eq (K : Nat) (k : Nat) (a0 : Int) (a1 : Int) (a2 : Err) (a3 : List Int) (a4 : Int) (a5 : Int) (a6 : Int) (a7 : Int) (a8 : Int) (a9 : Int) (a10 : Int) (a11 : Int) (a12 : Int) (a13 : Int) (a14 : Int) (a15 : List Int) (a16 : List Int) : exec M (C K) (eqBy M.P) (l0.LP K) RF (CP K) 20 l0.c (Kl 2 l0.h (withCv (l0.F K k) l0.cx) (backX 2 54 1 l0.x)) (l0.h.enc 54 (((), ((), ((), (a0, a1)))), (((), a2), ((a3, a4), ((a5, (a6, (a7, (a8, (a9, ()))))), ((a10, (a11, (a12, (a13, (a14, ()))))), (a15, (a16, ())))))))) = (l0.f K (k + 1) a0 a1 a2 a3 a4 a16).bind fun r => some (l0.cx (((), ((), ((), (a0, a1)))), (((), a2), ((a3, a4), ((a5, (a6, (a7, (a8, (a9, ()))))), ((a10, (a11, (a12, (a13, (a14, ()))))), (a15, (a16, ()))))))) r) := by
  rw [l0.f]
  try simp only [el]
  kernel_rfl
theorem l0.leads (K : Nat) : ∀ k x y, withCv (l0.F K k) l0.cx x = some y → Leads M 2 (.loop l0.c) (l0.h.enc 54 x) (outX 54 1 l0.x y).1 (outX 54 1 l0.x y).2 :=
  loopX_sound (C_ok K) (eqBy_ok _) (by kernel_rfl) RF_ok (CP_ok K) (show LoopsOk M 2 (l0.LP K) (loopsOf l0.c) from (show loopsOf l0.c = [] by kernel_rfl) ▸ (noLoops_ok)) (Nat.le_of_ble_eq_true rfl) (Nat.le_of_ble_eq_true rfl) (fun x => rfl) (fun k x => l0.eq K k x.1.2.2.2.1 x.1.2.2.2.2 x.2.1.2 x.2.2.1.1 x.2.2.1.2 x.2.2.2.1.1 x.2.2.2.1.2.1 x.2.2.2.1.2.2.1 x.2.2.2.1.2.2.2.1 x.2.2.2.1.2.2.2.2.1 x.2.2.2.2.1.1 x.2.2.2.2.1.2.1 x.2.2.2.2.1.2.2.1 x.2.2.2.2.1.2.2.2.1 x.2.2.2.2.1.2.2.2.2.1 x.2.2.2.2.2.1 x.2.2.2.2.2.2.1)
theorem l0.lp_ok {α : Type} (K : Nat) : LoopOk (α := α) M 2 (nthLoop Tryz.f193 0) (l0.lp K) := lpX_ok (Nat.le_of_ble_eq_true rfl) (l0.leads K K)
noncomputable def f (K : Nat) (a0 : Err) (a1 : List Int) (a2 : Int) : Option (Int × Int × Int × Int × Int × List Int × Err × Int) := (code_taker_kind.f K (17 : Int) a0 a1 a2).bind fun t => (code_of.f K t.1).bind fun t_1 => bif t_1.1 then (code_taker_upto.f K (7 : Int) t.2.1 a1 t.2.2).bind fun t_2 => bif t_1.2.1 then (code_taker_upto.f K (7 : Int) t_2.2.1 a1 t_2.2.2).bind fun t_3 => bif t_1.2.2.1 then (code_taker_upto.f K t_1.2.2.2.1 t_3.2.1 a1 t_3.2.2).bind fun t_4 => bif t.1 == (1 : Int) then (code_taker_signed.f K t_4.2.1 a1 t_4.2.2).bind fun t_5 => some (t.1, t_2.1, t_3.1, t_4.1, t_5.1, [], t_5.2.1, t_5.2.2) else bif t.1 == (17 : Int) then (code_taker_upto.f K (4 : Int) t_4.2.1 a1 t_4.2.2).bind fun t_5 => (l0.f K K t_5.1 (0 : Int) t_5.2.1 a1 t_5.2.2 []).bind fun t_6 => some (t.1, t_2.1, t_3.1, t_4.1, (0 : Int), t_6.2.2, t_6.1, t_6.2.1) else some (t.1, t_2.1, t_3.1, t_4.1, (0 : Int), [], t_4.2.1, t_4.2.2) else bif t.1 == (1 : Int) then (code_taker_signed.f K t_3.2.1 a1 t_3.2.2).bind fun t_4 => some (t.1, t_2.1, t_3.1, (0 : Int), t_4.1, [], t_4.2.1, t_4.2.2) else bif t.1 == (17 : Int) then (code_taker_upto.f K (4 : Int) t_3.2.1 a1 t_3.2.2).bind fun t_4 => (l0.f K K t_4.1 (0 : Int) t_4.2.1 a1 t_4.2.2 []).bind fun t_5 => some (t.1, t_2.1, t_3.1, (0 : Int), (0 : Int), t_5.2.2, t_5.1, t_5.2.1) else some (t.1, t_2.1, t_3.1, (0 : Int), (0 : Int), [], t_3.2.1, t_3.2.2) else bif t_1.2.2.1 then (code_taker_upto.f K t_1.2.2.2.1 t_2.2.1 a1 t_2.2.2).bind fun t_3 => bif t.1 == (1 : Int) then (code_taker_signed.f K t_3.2.1 a1 t_3.2.2).bind fun t_4 => some (t.1, t_2.1, (0 : Int), t_3.1, t_4.1, [], t_4.2.1, t_4.2.2) else bif t.1 == (17 : Int) then (code_taker_upto.f K (4 : Int) t_3.2.1 a1 t_3.2.2).bind fun t_4 => (l0.f K K t_4.1 (0 : Int) t_4.2.1 a1 t_4.2.2 []).bind fun t_5 => some (t.1, t_2.1, (0 : Int), t_3.1, (0 : Int), t_5.2.2, t_5.1, t_5.2.1) else some (t.1, t_2.1, (0 : Int), t_3.1, (0 : Int), [], t_3.2.1, t_3.2.2) else bif t.1 == (1 : Int) then (code_taker_signed.f K t_2.2.1 a1 t_2.2.2).bind fun t_3 => some (t.1, t_2.1, (0 : Int), (0 : Int), t_3.1, [], t_3.2.1, t_3.2.2) else bif t.1 == (17 : Int) then (code_taker_upto.f K (4 : Int) t_2.2.1 a1 t_2.2.2).bind fun t_3 => (l0.f K K t_3.1 (0 : Int) t_3.2.1 a1 t_3.2.2 []).bind fun t_4 => some (t.1, t_2.1, (0 : Int), (0 : Int), (0 : Int), t_4.2.2, t_4.1, t_4.2.1) else some (t.1, t_2.1, (0 : Int), (0 : Int), (0 : Int), [], t_2.2.1, t_2.2.2) else bif t_1.2.1 then (code_taker_upto.f K (7 : Int) t.2.1 a1 t.2.2).bind fun t_2 => bif t_1.2.2.1 then (code_taker_upto.f K t_1.2.2.2.1 t_2.2.1 a1 t_2.2.2).bind fun t_3 => bif t.1 == (1 : Int) then (code_taker_signed.f K t_3.2.1 a1 t_3.2.2).bind fun t_4 => some (t.1, (0 : Int), t_2.1, t_3.1, t_4.1, [], t_4.2.1, t_4.2.2) else bif t.1 == (17 : Int) then (code_taker_upto.f K (4 : Int) t_3.2.1 a1 t_3.2.2).bind fun t_4 => (l0.f K K t_4.1 (0 : Int) t_4.2.1 a1 t_4.2.2 []).bind fun t_5 => some (t.1, (0 : Int), t_2.1, t_3.1, (0 : Int), t_5.2.2, t_5.1, t_5.2.1) else some (t.1, (0 : Int), t_2.1, t_3.1, (0 : Int), [], t_3.2.1, t_3.2.2) else bif t.1 == (1 : Int) then (code_taker_signed.f K t_2.2.1 a1 t_2.2.2).bind fun t_3 => some (t.1, (0 : Int), t_2.1, (0 : Int), t_3.1, [], t_3.2.1, t_3.2.2) else bif t.1 == (17 : Int) then (code_taker_upto.f K (4 : Int) t_2.2.1 a1 t_2.2.2).bind fun t_3 => (l0.f K K t_3.1 (0 : Int) t_3.2.1 a1 t_3.2.2 []).bind fun t_4 => some (t.1, (0 : Int), t_2.1, (0 : Int), (0 : Int), t_4.2.2, t_4.1, t_4.2.1) else some (t.1, (0 : Int), t_2.1, (0 : Int), (0 : Int), [], t_2.2.1, t_2.2.2) else bif t_1.2.2.1 then (code_taker_upto.f K t_1.2.2.2.1 t.2.1 a1 t.2.2).bind fun t_2 => bif t.1 == (1 : Int) then (code_taker_signed.f K t_2.2.1 a1 t_2.2.2).bind fun t_3 => some (t.1, (0 : Int), (0 : Int), t_2.1, t_3.1, [], t_3.2.1, t_3.2.2) else bif t.1 == (17 : Int) then (code_taker_upto.f K (4 : Int) t_2.2.1 a1 t_2.2.2).bind fun t_3 => (l0.f K K t_3.1 (0 : Int) t_3.2.1 a1 t_3.2.2 []).bind fun t_4 => some (t.1, (0 : Int), (0 : Int), t_2.1, (0 : Int), t_4.2.2, t_4.1, t_4.2.1) else some (t.1, (0 : Int), (0 : Int), t_2.1, (0 : Int), [], t_2.2.1, t_2.2.2) else bif t.1 == (1 : Int) then (code_taker_signed.f K t.2.1 a1 t.2.2).bind fun t_2 => some (t.1, (0 : Int), (0 : Int), (0 : Int), t_2.1, [], t_2.2.1, t_2.2.2) else bif t.1 == (17 : Int) then (code_taker_upto.f K (4 : Int) t.2.1 a1 t.2.2).bind fun t_2 => (l0.f K K t_2.1 (0 : Int) t_2.2.1 a1 t_2.2.2 []).bind fun t_3 => some (t.1, (0 : Int), (0 : Int), (0 : Int), (0 : Int), t_3.2.2, t_3.1, t_3.2.1) else some (t.1, (0 : Int), (0 : Int), (0 : Int), (0 : Int), [], t.2.1, t.2.2)
noncomputable def F (K : Nat) : sig.In → Option (Int × Int × Int × Int × Int × List Int × Err × Int) := fun x => f K x.2.1.2 x.2.2.1.1 x.2.2.1.2
noncomputable def cv : sig.In → (Int × Int × Int × Int × Int × List Int × Err × Int) → sig.Ou := fun x r => ((r.1, (r.2.1, (r.2.2.1, (r.2.2.2.1, (r.2.2.2.2.1, r.2.2.2.2.2.1))))), (((), r.2.2.2.2.2.2.1), ((x.2.2.1.1, r.2.2.2.2.2.2.2), ())))
noncomputable def LP {α : Type} (K : Nat) : LoopsBy α := (lpPut 14 (l0.lp K) noLoops)
theorem eq (K : Nat) (a0 : Err) (a1 : List Int) (a2 : Int) : runF M sig (C K) (eqBy M.P) (LP K) RF (CP K) 20 Tryz.f193 (bodyOf Tryz.f193) ((), (((), a0), ((a1, a2), ()))) = (f K a0 a1 a2).bind fun r => some (cv ((), (((), a0), ((a1, a2), ()))) r) := by
  unfold f
  try simp only [el]
  kernel_rfl
theorem rets (K : Nat) : ∀ x y, withCv (F K) cv x = some y → Rets M 193 sig x y := fun x y h => runF_rets (L := 20) (C_ok K) (eqBy_ok _) (by kernel_rfl) RF_ok (CP_ok K) (show LoopsOk M 2 (LP K) (loopsOf (bodyOf Tryz.f193)) from (show loopsOf (bodyOf Tryz.f193) = [nthLoop Tryz.f193 0] by kernel_rfl) ▸ (loopsOk_put (key := 14) (by kernel_rfl) (l0.lp_ok K) noLoops_ok (by kernel_rfl))) (Nat.le_of_ble_eq_true rfl) Tryz.func193 (by kernel_rfl) ((eq K x.2.1.2 x.2.2.1.1 x.2.2.1.2).trans h)
end code_taker_insn
namespace code_taker_end
/-! ### code_taker_end: function 194 -/
noncomputable def sig : Sig := ⟨(.ptr 0 0), [.cells 196 0 (.cons (.ptr 1 0) (.ty .err)), .cells 199 0 (.cons (.ty (.slice (.int .u8))) (.ty yI))], (.agg (.cons (.ty yI) (.cons (.ty yI) (.cons (.ty yI) (.ty yI))))), [.cells 196 0 (.cons (.ptr 1 0) (.ty .err)), .cells 199 0 (.cons (.ty (.slice (.int .u8))) (.ty yI))]⟩
noncomputable def RF : RefitBy := noRefit
theorem RF_ok : RefitOk M 2 RF := noRefit_ok
noncomputable def C {α : Type} (K : Nat) : CallsBy α := (entryD 215 code_taker_kind.sig (code_taker_kind.F K) code_taker_kind.cv (entryD 143 code_taker_upto.sig (code_taker_upto.F K) code_taker_upto.cv noCalls))
theorem C_ok {α : Type} (K : Nat) : CallsOk (α := α) M (C K) := (entryD_ok (entryD_ok noCalls_ok (by rfl) Tryz.func143 (by kernel_rfl) rfl (code_taker_upto.rets K)) (by rfl) Tryz.func215 (by kernel_rfl) rfl (code_taker_kind.rets K))
noncomputable def CP {α : Type} (K : Nat) : CutBy α := noCuts
theorem CP_ok {α : Type} (K : Nat)  : CutsOk (α := α) M 2 (CP K) := noCuts_ok
noncomputable def f (K : Nat) (a0 : Err) (a1 : List Int) (a2 : Int) : Option (Int × Int × Int × Int × Err × Int) := (code_taker_kind.f K (3 : Int) a0 a1 a2).bind fun t => bif t.1 != (1 : Int) then (code_taker_upto.f K (7 : Int) t.2.1 a1 t.2.2).bind fun t_1 => bif t.1 != (3 : Int) then (code_taker_upto.f K (11 : Int) t_1.2.1 a1 t_1.2.2).bind fun t_2 => bif t.1 == (2 : Int) then (code_taker_upto.f K (11 : Int) t_2.2.1 a1 t_2.2.2).bind fun t_3 => some (t.1, t_1.1, t_2.1, t_3.1, t_3.2.1, t_3.2.2) else some (t.1, t_1.1, t_2.1, (0 : Int), t_2.2.1, t_2.2.2) else bif t.1 == (2 : Int) then (code_taker_upto.f K (11 : Int) t_1.2.1 a1 t_1.2.2).bind fun t_2 => some (t.1, t_1.1, (0 : Int), t_2.1, t_2.2.1, t_2.2.2) else some (t.1, t_1.1, (0 : Int), (0 : Int), t_1.2.1, t_1.2.2) else bif t.1 != (3 : Int) then (code_taker_upto.f K (11 : Int) t.2.1 a1 t.2.2).bind fun t_1 => bif t.1 == (2 : Int) then (code_taker_upto.f K (11 : Int) t_1.2.1 a1 t_1.2.2).bind fun t_2 => some (t.1, (0 : Int), t_1.1, t_2.1, t_2.2.1, t_2.2.2) else some (t.1, (0 : Int), t_1.1, (0 : Int), t_1.2.1, t_1.2.2) else bif t.1 == (2 : Int) then (code_taker_upto.f K (11 : Int) t.2.1 a1 t.2.2).bind fun t_1 => some (t.1, (0 : Int), (0 : Int), t_1.1, t_1.2.1, t_1.2.2) else some (t.1, (0 : Int), (0 : Int), (0 : Int), t.2.1, t.2.2)
noncomputable def F (K : Nat) : sig.In → Option (Int × Int × Int × Int × Err × Int) := fun x => f K x.2.1.2 x.2.2.1.1 x.2.2.1.2
noncomputable def cv : sig.In → (Int × Int × Int × Int × Err × Int) → sig.Ou := fun x r => ((r.1, (r.2.1, (r.2.2.1, r.2.2.2.1))), (((), r.2.2.2.2.1), ((x.2.2.1.1, r.2.2.2.2.2), ())))
noncomputable def LP {α : Type} (K : Nat) : LoopsBy α := noLoops
theorem eq (K : Nat) (a0 : Err) (a1 : List Int) (a2 : Int) : runF M sig (C K) (eqBy M.P) (LP K) RF (CP K) 20 Tryz.f194 (bodyOf Tryz.f194) ((), (((), a0), ((a1, a2), ()))) = (f K a0 a1 a2).bind fun r => some (cv ((), (((), a0), ((a1, a2), ()))) r) := by
  unfold f
  try simp only [el]
  kernel_rfl
theorem rets (K : Nat) : ∀ x y, withCv (F K) cv x = some y → Rets M 194 sig x y := fun x y h => runF_rets (L := 20) (C_ok K) (eqBy_ok _) (by kernel_rfl) RF_ok (CP_ok K) (show LoopsOk M 2 (LP K) (loopsOf (bodyOf Tryz.f194)) from (show loopsOf (bodyOf Tryz.f194) = [] by kernel_rfl) ▸ noLoops_ok) (Nat.le_of_ble_eq_true rfl) Tryz.func194 (by kernel_rfl) ((eq K x.2.1.2 x.2.2.1.1 x.2.2.1.2).trans h)
end code_taker_end
namespace code_taker_block
/-! ### code_taker_block: function 166 -/
noncomputable def sig : Sig := ⟨(.ptr 0 0), [.cells 196 0 (.cons (.ptr 1 0) (.ty .err)), .cells 199 0 (.cons (.ty (.slice (.int .u8))) (.ty yI))], (.agg (.cons (.ty (.slice yInsn)) (.cons (.ty yI) (.cons (.ty yI) (.cons (.ty yI) (.ty yI)))))), [.cells 196 0 (.cons (.ptr 1 0) (.ty .err)), .cells 199 0 (.cons (.ty (.slice (.int .u8))) (.ty yI))]⟩
noncomputable def RF : RefitBy := noRefit
theorem RF_ok : RefitOk M 2 RF := noRefit_ok
noncomputable def C {α : Type} (K : Nat) : CallsBy α := (entryD 143 code_taker_upto.sig (code_taker_upto.F K) code_taker_upto.cv (entryD 193 code_taker_insn.sig (code_taker_insn.F K) code_taker_insn.cv (entryD 194 code_taker_end.sig (code_taker_end.F K) code_taker_end.cv noCalls)))
theorem C_ok {α : Type} (K : Nat) : CallsOk (α := α) M (C K) := (entryD_ok (entryD_ok (entryD_ok noCalls_ok (by rfl) Tryz.func194 (by kernel_rfl) rfl (code_taker_end.rets K)) (by rfl) Tryz.func193 (by kernel_rfl) rfl (code_taker_insn.rets K)) (by rfl) Tryz.func143 (by kernel_rfl) rfl (code_taker_upto.rets K))
noncomputable def CP {α : Type} (K : Nat) : CutBy α := noCuts
theorem CP_ok {α : Type} (K : Nat)  : CutsOk (α := α) M 2 (CP K) := noCuts_ok
noncomputable def l0.h : SSh := ⟨[0, 2, 3, 5, 6], (.cons (.ptr 0 0) (.cons (.ptr 2 0) (.cons (.ptr 3 0) (.cons (.ty yI) (.ty yI))))), [.cells 196 0 (.cons (.ptr 1 0) (.ty .err)), .cells 199 0 (.cons (.ty (.slice (.int .u8))) (.ty yI)), .cells 91 0 (.cons (.own 4) (.cons (.ty yI) (.cons (.ty yI) (.cons (.ty yI) (.ty yI))))), .cells 91 0 (.cons (.own 5) (.cons (.ty yI) (.cons (.ty yI) (.cons (.ty yI) (.ty yI))))), .list 144 yInsn [], .list 144 yInsn []]⟩
noncomputable def l0.x : SSh := ⟨[0, 2, 3], (.cons (.ptr 0 0) (.cons (.ptr 2 0) (.ptr 3 0))), [.cells 196 0 (.cons (.ptr 1 0) (.ty .err)), .cells 199 0 (.cons (.ty (.slice (.int .u8))) (.ty yI)), .cells 91 0 (.cons (.own 4) (.cons (.ty yI) (.cons (.ty yI) (.cons (.ty yI) (.ty yI))))), .cells 91 0 (.cons (.own 5) (.cons (.ty yI) (.cons (.ty yI) (.cons (.ty yI) (.ty yI))))), .list 144 yInsn [], .list 144 yInsn []]⟩
noncomputable def l0.cx : l0.h.I → (Err × Int × List LInsn) → l0.x.I := fun x r => (((), ((), ())), (((), r.1), ((x.2.2.1.1, r.2.1), (((), (x.2.2.2.1.2.1, (x.2.2.2.1.2.2.1, (x.2.2.2.1.2.2.2.1, x.2.2.2.1.2.2.2.2)))), (((), (x.2.2.2.2.1.2.1, (x.2.2.2.2.1.2.2.1, (x.2.2.2.2.1.2.2.2.1, x.2.2.2.2.1.2.2.2.2)))), (x.2.2.2.2.2.1, (r.2.2, ())))))))
noncomputable def l0.f (K : Nat) : Nat → Int → Int → Err → List Int → Int → List LInsn → Option (Err × Int × List LInsn)
  | 0, _, _, _, _, _, _ => none
  | k + 1, a0, a1, a2, a3, a4, a14 => bif decide (a1 < a0) then (code_taker_insn.f K a2 a3 a4).bind fun t => bif (a14.length + [(t.1, t.2.1, t.2.2.1, t.2.2.2.1, t.2.2.2.2.1, t.2.2.2.2.2.1)].length).ble (100000 : Nat) then l0.f K k a0 (IntKind.i64.wrap (a1 + (1 : Int))) t.2.2.2.2.2.2.1 a3 t.2.2.2.2.2.2.2 (a14 ++ [(t.1, t.2.1, t.2.2.1, t.2.2.2.1, t.2.2.2.2.1, t.2.2.2.2.2.1)]) else none else some (a2, a4, a14)
noncomputable def l0.F (K : Nat) (k : Nat) : l0.h.I → Option (Err × Int × List LInsn) := fun x => l0.f K k x.1.2.2.2.1 x.1.2.2.2.2 x.2.1.2 x.2.2.1.1 x.2.2.1.2 x.2.2.2.2.2.2.1
noncomputable def l0.lp {α : Type} (K : Nat) : St → Kn α → Option α := lpX 2 20 0 l0.h l0.x (l0.F K K) l0.cx
noncomputable def l0.c : Code := nthLoop Tryz.f166 0
noncomputable def l0.LP {α : Type} (K : Nat) : LoopsBy α := noLoops
theorem l0.eq (K : Nat) (k : Nat) (a0 : Int) (a1 : Int) (a2 : Err) (a3 : List Int) (a4 : Int) (a5 : Int) (a6 : Int) (a7 : Int) (a8 : Int) (a9 : Int) (a10 : Int) (a11 : Int) (a12 : Int) (a13 : List LInsn) (a14 : List LInsn) : exec M (C K) (eqBy M.P) (l0.LP K) RF (CP K) 20 l0.c (Kl 2 l0.h (withCv (l0.F K k) l0.cx) (backX 2 20 0 l0.x)) (l0.h.enc 20 (((), ((), ((), (a0, a1)))), (((), a2), ((a3, a4), (((), (a5, (a6, (a7, a8)))), (((), (a9, (a10, (a11, a12)))), (a13, (a14, ())))))))) = (l0.f K (k + 1) a0 a1 a2 a3 a4 a14).bind fun r => some (l0.cx (((), ((), ((), (a0, a1)))), (((), a2), ((a3, a4), (((), (a5, (a6, (a7, a8)))), (((), (a9, (a10, (a11, a12)))), (a13, (a14, ()))))))) r) := by
  rw [l0.f]
  try simp only [el]
  kernel_rfl
theorem l0.leads (K : Nat) : ∀ k x y, withCv (l0.F K k) l0.cx x = some y → Leads M 2 (.loop l0.c) (l0.h.enc 20 x) (outX 20 0 l0.x y).1 (outX 20 0 l0.x y).2 :=
  loopX_sound (C_ok K) (eqBy_ok _) (by kernel_rfl) RF_ok (CP_ok K) (show LoopsOk M 2 (l0.LP K) (loopsOf l0.c) from (show loopsOf l0.c = [] by kernel_rfl) ▸ (noLoops_ok)) (Nat.le_of_ble_eq_true rfl) (Nat.le_of_ble_eq_true rfl) (fun x => rfl) (fun k x => l0.eq K k x.1.2.2.2.1 x.1.2.2.2.2 x.2.1.2 x.2.2.1.1 x.2.2.1.2 x.2.2.2.1.2.1 x.2.2.2.1.2.2.1 x.2.2.2.1.2.2.2.1 x.2.2.2.1.2.2.2.2 x.2.2.2.2.1.2.1 x.2.2.2.2.1.2.2.1 x.2.2.2.2.1.2.2.2.1 x.2.2.2.2.1.2.2.2.2 x.2.2.2.2.2.1 x.2.2.2.2.2.2.1)
theorem l0.lp_ok {α : Type} (K : Nat) : LoopOk (α := α) M 2 (nthLoop Tryz.f166 0) (l0.lp K) := lpX_ok (Nat.le_of_ble_eq_true rfl) (l0.leads K K)
noncomputable def f (K : Nat) (a0 : Err) (a1 : List Int) (a2 : Int) : Option (List LInsn × Int × Int × Int × Int × Err × Int) := (code_taker_upto.f K (12 : Int) a0 a1 a2).bind fun t => (l0.f K K t.1 (0 : Int) t.2.1 a1 t.2.2 []).bind fun t => (code_taker_end.f K t.1 a1 t.2.1).bind fun t_1 => some (t.2.2, t_1.1, t_1.2.1, t_1.2.2.1, t_1.2.2.2.1, t_1.2.2.2.2.1, t_1.2.2.2.2.2)
noncomputable def F (K : Nat) : sig.In → Option (List LInsn × Int × Int × Int × Int × Err × Int) := fun x => f K x.2.1.2 x.2.2.1.1 x.2.2.1.2
noncomputable def cv : sig.In → (List LInsn × Int × Int × Int × Int × Err × Int) → sig.Ou := fun x r => ((r.1, (r.2.1, (r.2.2.1, (r.2.2.2.1, r.2.2.2.2.1)))), (((), r.2.2.2.2.2.1), ((x.2.2.1.1, r.2.2.2.2.2.2), ())))
noncomputable def LP {α : Type} (K : Nat) : LoopsBy α := (lpPut 3 (l0.lp K) noLoops)
theorem eq (K : Nat) (a0 : Err) (a1 : List Int) (a2 : Int) : runF M sig (C K) (eqBy M.P) (LP K) RF (CP K) 20 Tryz.f166 (bodyOf Tryz.f166) ((), (((), a0), ((a1, a2), ()))) = (f K a0 a1 a2).bind fun r => some (cv ((), (((), a0), ((a1, a2), ()))) r) := by
  unfold f
  try simp only [el]
  kernel_rfl
theorem rets (K : Nat) : ∀ x y, withCv (F K) cv x = some y → Rets M 166 sig x y := fun x y h => runF_rets (L := 20) (C_ok K) (eqBy_ok _) (by kernel_rfl) RF_ok (CP_ok K) (show LoopsOk M 2 (LP K) (loopsOf (bodyOf Tryz.f166)) from (show loopsOf (bodyOf Tryz.f166) = [nthLoop Tryz.f166 0] by kernel_rfl) ▸ (loopsOk_put (key := 3) (by kernel_rfl) (l0.lp_ok K) noLoops_ok (by kernel_rfl))) (Nat.le_of_ble_eq_true rfl) Tryz.func166 (by kernel_rfl) ((eq K x.2.1.2 x.2.2.1.1 x.2.2.1.2).trans h)
end code_taker_block
namespace code_taker_function
/-! ### code_taker_function: function 145 -/
noncomputable def sig : Sig := ⟨(.ptr 0 0), [.cells 196 0 (.cons (.ptr 1 0) (.ty .err)), .cells 199 0 (.cons (.ty (.slice (.int .u8))) (.ty yI))], (.agg (.cons (.ty .str) (.cons (.ty yI) (.cons (.ty yI) (.ty (.slice yBlock)))))), [.cells 196 0 (.cons (.ptr 1 0) (.ty .err)), .cells 199 0 (.cons (.ty (.slice (.int .u8))) (.ty yI))]⟩
noncomputable def RF : RefitBy := noRefit
theorem RF_ok : RefitOk M 2 RF := noRefit_ok
noncomputable def C {α : Type} (K : Nat) : CallsBy α := (entryD 146 code_taker_name.sig (code_taker_name.F K) code_taker_name.cv (entryD 143 code_taker_upto.sig (code_taker_upto.F K) code_taker_upto.cv (entryD 166 code_taker_block.sig (code_taker_block.F K) code_taker_block.cv noCalls)))
theorem C_ok {α : Type} (K : Nat) : CallsOk (α := α) M (C K) := (entryD_ok (entryD_ok (entryD_ok noCalls_ok (by rfl) Tryz.func166 (by kernel_rfl) rfl (code_taker_block.rets K)) (by rfl) Tryz.func143 (by kernel_rfl) rfl (code_taker_upto.rets K)) (by rfl) Tryz.func146 (by kernel_rfl) rfl (code_taker_name.rets K))
noncomputable def CP {α : Type} (K : Nat) : CutBy α := noCuts
theorem CP_ok {α : Type} (K : Nat)  : CutsOk (α := α) M 2 (CP K) := noCuts_ok
noncomputable def l0.h : SSh := ⟨[0, 2, 3, 14, 15], (.cons (.ptr 0 0) (.cons (.ptr 2 0) (.cons (.ptr 3 0) (.cons (.ty yI) (.ty yI))))), [.cells 196 0 (.cons (.ptr 1 0) (.ty .err)), .cells 199 0 (.cons (.ty (.slice (.int .u8))) (.ty yI)), .cells 47 0 (.cons (.ty .str) (.cons (.ty yI) (.cons (.ty yI) (.own 4)))), .cells 47 0 (.cons (.ty .str) (.cons (.ty yI) (.cons (.ty yI) (.own 5)))), .list 91 yBlock [], .list 91 yBlock []]⟩
noncomputable def l0.x : SSh := ⟨[2, 3], (.cons (.ptr 2 0) (.ptr 3 0)), [.cells 196 0 (.cons (.ptr 1 0) (.ty .err)), .cells 199 0 (.cons (.ty (.slice (.int .u8))) (.ty yI)), .cells 47 0 (.cons (.ty .str) (.cons (.ty yI) (.cons (.ty yI) (.own 4)))), .cells 47 0 (.cons (.ty .str) (.cons (.ty yI) (.cons (.ty yI) (.own 5)))), .list 91 yBlock [], .list 91 yBlock []]⟩
noncomputable def l0.cx : l0.h.I → (Err × Int × List LBlock) → l0.x.I := fun x r => (((), ()), (((), r.1), ((x.2.2.1.1, r.2.1), ((x.2.2.2.1.1, (x.2.2.2.1.2.1, (x.2.2.2.1.2.2.1, ()))), ((x.2.2.2.2.1.1, (x.2.2.2.2.1.2.1, (x.2.2.2.2.1.2.2.1, ()))), (x.2.2.2.2.2.1, (r.2.2, ())))))))
noncomputable def l0.f (K : Nat) : Nat → Int → Int → Err → List Int → Int → List LBlock → Option (Err × Int × List LBlock)
  | 0, _, _, _, _, _, _ => none
  | k + 1, a0, a1, a2, a3, a4, a12 => bif decide (a1 < a0) then (code_taker_block.f K a2 a3 a4).bind fun t => bif (a12.length + [(t.1, t.2.1, t.2.2.1, t.2.2.2.1, t.2.2.2.2.1)].length).ble (100000 : Nat) then l0.f K k a0 (IntKind.i64.wrap (a1 + (1 : Int))) t.2.2.2.2.2.1 a3 t.2.2.2.2.2.2 (a12 ++ [(t.1, t.2.1, t.2.2.1, t.2.2.2.1, t.2.2.2.2.1)]) else none else some (a2, a4, a12)
noncomputable def l0.F (K : Nat) (k : Nat) : l0.h.I → Option (Err × Int × List LBlock) := fun x => l0.f K k x.1.2.2.2.1 x.1.2.2.2.2 x.2.1.2 x.2.2.1.1 x.2.2.1.2 x.2.2.2.2.2.2.1
noncomputable def l0.lp {α : Type} (K : Nat) : St → Kn α → Option α := lpX 2 26 0 l0.h l0.x (l0.F K K) l0.cx
noncomputable def l0.c : Code := nthLoop Tryz.f145 0
noncomputable def l0.LP {α : Type} (K : Nat) : LoopsBy α := noLoops
theorem l0.eq (K : Nat) (k : Nat) (a0 : Int) (a1 : Int) (a2 : Err) (a3 : List Int) (a4 : Int) (a5 : ByteArray) (a6 : Int) (a7 : Int) (a8 : ByteArray) (a9 : Int) (a10 : Int) (a11 : List LBlock) (a12 : List LBlock) : exec M (C K) (eqBy M.P) (l0.LP K) RF (CP K) 20 l0.c (Kl 2 l0.h (withCv (l0.F K k) l0.cx) (backX 2 26 0 l0.x)) (l0.h.enc 26 (((), ((), ((), (a0, a1)))), (((), a2), ((a3, a4), ((a5, (a6, (a7, ()))), ((a8, (a9, (a10, ()))), (a11, (a12, ())))))))) = (l0.f K (k + 1) a0 a1 a2 a3 a4 a12).bind fun r => some (l0.cx (((), ((), ((), (a0, a1)))), (((), a2), ((a3, a4), ((a5, (a6, (a7, ()))), ((a8, (a9, (a10, ()))), (a11, (a12, ()))))))) r) := by
  rw [l0.f]
  try simp only [el]
  kernel_rfl
theorem l0.leads (K : Nat) : ∀ k x y, withCv (l0.F K k) l0.cx x = some y → Leads M 2 (.loop l0.c) (l0.h.enc 26 x) (outX 26 0 l0.x y).1 (outX 26 0 l0.x y).2 :=
  loopX_sound (C_ok K) (eqBy_ok _) (by kernel_rfl) RF_ok (CP_ok K) (show LoopsOk M 2 (l0.LP K) (loopsOf l0.c) from (show loopsOf l0.c = [] by kernel_rfl) ▸ (noLoops_ok)) (Nat.le_of_ble_eq_true rfl) (Nat.le_of_ble_eq_true rfl) (fun x => rfl) (fun k x => l0.eq K k x.1.2.2.2.1 x.1.2.2.2.2 x.2.1.2 x.2.2.1.1 x.2.2.1.2 x.2.2.2.1.1 x.2.2.2.1.2.1 x.2.2.2.1.2.2.1 x.2.2.2.2.1.1 x.2.2.2.2.1.2.1 x.2.2.2.2.1.2.2.1 x.2.2.2.2.2.1 x.2.2.2.2.2.2.1)
theorem l0.lp_ok {α : Type} (K : Nat) : LoopOk (α := α) M 2 (nthLoop Tryz.f145 0) (l0.lp K) := lpX_ok (Nat.le_of_ble_eq_true rfl) (l0.leads K K)
noncomputable def f (K : Nat) (a0 : Err) (a1 : List Int) (a2 : Int) : Option (ByteArray × Int × Int × List LBlock × Err × List Int × Int) := (code_taker_name.f K a0 a1 a2).bind fun t => (code_taker_upto.f K (4 : Int) t.2.1 a1 t.2.2).bind fun t_1 => (code_taker_upto.f K (8 : Int) t_1.2.1 a1 t_1.2.2).bind fun t_2 => (code_taker_upto.f K (12 : Int) t_2.2.1 a1 t_2.2.2).bind fun t_3 => (l0.f K K t_3.1 (0 : Int) t_3.2.1 a1 t_3.2.2 []).bind fun t_4 => some (t.1, t_1.1, t_2.1, t_4.2.2, t_4.1, a1, t_4.2.1)
noncomputable def F (K : Nat) : sig.In → Option (ByteArray × Int × Int × List LBlock × Err × List Int × Int) := fun x => f K x.2.1.2 x.2.2.1.1 x.2.2.1.2
noncomputable def cv : sig.In → (ByteArray × Int × Int × List LBlock × Err × List Int × Int) → sig.Ou := fun x r => ((r.1, (r.2.1, (r.2.2.1, r.2.2.2.1))), (((), r.2.2.2.2.1), ((r.2.2.2.2.2.1, r.2.2.2.2.2.2), ())))
noncomputable def LP {α : Type} (K : Nat) : LoopsBy α := (lpPut 5 (l0.lp K) noLoops)
theorem eq (K : Nat) (a0 : Err) (a1 : List Int) (a2 : Int) : runF M sig (C K) (eqBy M.P) (LP K) RF (CP K) 20 Tryz.f145 (bodyOf Tryz.f145) ((), (((), a0), ((a1, a2), ()))) = (f K a0 a1 a2).bind fun r => some (cv ((), (((), a0), ((a1, a2), ()))) r) := by
  unfold f
  try simp only [el]
  kernel_rfl
theorem rets (K : Nat) : ∀ x y, withCv (F K) cv x = some y → Rets M 145 sig x y := fun x y h => runF_rets (L := 20) (C_ok K) (eqBy_ok _) (by kernel_rfl) RF_ok (CP_ok K) (show LoopsOk M 2 (LP K) (loopsOf (bodyOf Tryz.f145)) from (show loopsOf (bodyOf Tryz.f145) = [nthLoop Tryz.f145 0] by kernel_rfl) ▸ (loopsOk_put (key := 5) (by kernel_rfl) (l0.lp_ok K) noLoops_ok (by kernel_rfl))) (Nat.le_of_ble_eq_true rfl) Tryz.func145 (by kernel_rfl) ((eq K x.2.1.2 x.2.2.1.1 x.2.2.1.2).trans h)
end code_taker_function
namespace wire_Reader_End
/-! ### wire_Reader_End: function 147 -/
noncomputable def sig : Sig := ⟨(.ptr 0 0), [.cells 199 0 (.cons (.ty (.slice (.int .u8))) (.ty yI))], (.ty .err), [.cells 199 0 (.cons (.ty (.slice (.int .u8))) (.ty yI))]⟩
noncomputable def RF : RefitBy := noRefit
theorem RF_ok : RefitOk M 1 RF := noRefit_ok
noncomputable def C {α : Type} (K : Nat) : CallsBy α := (entryD 163 wire_Reader_Left.sig (wire_Reader_Left.F K) wire_Reader_Left.cv (entryD 162 wire_Reader_wrong.sig (wire_Reader_wrong.F K) wire_Reader_wrong.cv noCalls))
theorem C_ok {α : Type} (K : Nat) : CallsOk (α := α) M (C K) := (entryD_ok (entryD_ok noCalls_ok (by rfl) Tryz.func162 (by kernel_rfl) rfl (wire_Reader_wrong.rets K)) (by rfl) Tryz.func163 (by kernel_rfl) rfl (wire_Reader_Left.rets K))
noncomputable def CP {α : Type} (K : Nat) : CutBy α := noCuts
theorem CP_ok {α : Type} (K : Nat)  : CutsOk (α := α) M 1 (CP K) := noCuts_ok
noncomputable def f (K : Nat) (a0 : List Int) (a1 : Int) : Option (Err) := (wire_Reader_Left.f K a0 a1).bind fun t => bif decide (t > (0 : Int)) then wire_Reader_wrong.f K (3 : Int) a1 else some Err.nil
noncomputable def F (K : Nat) : sig.In → Option (Err) := fun x => f K x.2.1.1 x.2.1.2
noncomputable def cv : sig.In → Err → sig.Ou := fun x r => (r, ((x.2.1.1, x.2.1.2), ()))
noncomputable def LP {α : Type} (K : Nat) : LoopsBy α := noLoops
theorem eq (K : Nat) (a0 : List Int) (a1 : Int) : runF M sig (C K) (eqBy M.P) (LP K) RF (CP K) 20 Tryz.f147 (bodyOf Tryz.f147) ((), ((a0, a1), ())) = (f K a0 a1).bind fun r => some (cv ((), ((a0, a1), ())) r) := by
  unfold f
  try simp only [el]
  kernel_rfl
theorem rets (K : Nat) : ∀ x y, withCv (F K) cv x = some y → Rets M 147 sig x y := fun x y h => runF_rets (L := 20) (C_ok K) (eqBy_ok _) (by kernel_rfl) RF_ok (CP_ok K) (show LoopsOk M 1 (LP K) (loopsOf (bodyOf Tryz.f147)) from (show loopsOf (bodyOf Tryz.f147) = [] by kernel_rfl) ▸ noLoops_ok) (Nat.le_of_ble_eq_true rfl) Tryz.func147 (by kernel_rfl) ((eq K x.2.1.1 x.2.1.2).trans h)
end wire_Reader_End
namespace code_taker_module
/-! ### code_taker_module: function 99 -/
noncomputable def sig : Sig := ⟨(.ptr 0 0), [.cells 196 0 (.cons (.ptr 1 0) (.ty .err)), .cells 199 0 (.cons (.ty (.slice (.int .u8))) (.ty yI))], (.agg (.cons (.ty (.slice yI)) (.cons (.ty (.slice yFunc)) (.ty (.slice yImport))))), [.cells 196 0 (.cons (.ptr 1 0) (.ty .err)), .cells 199 0 (.cons (.ty (.slice (.int .u8))) (.ty yI))]⟩
noncomputable def RF : RefitBy := noRefit
theorem RF_ok : RefitOk M 2 RF := noRefit_ok
noncomputable def C {α : Type} (K : Nat) : CallsBy α := (entryD 141 wire_Reader_At.sig (wire_Reader_At.F K) wire_Reader_At.cv (entryD 142 wire_Reader_Raw.sig (wire_Reader_Raw.F K) wire_Reader_Raw.cv (entryD 93 fault_At.sig (fault_At.F K) fault_At.cv (entryD 143 code_taker_upto.sig (code_taker_upto.F K) code_taker_upto.cv (entryD 144 code_taker_signed.sig (code_taker_signed.F K) code_taker_signed.cv (entryD 145 code_taker_function.sig (code_taker_function.F K) code_taker_function.cv (entryD 146 code_taker_name.sig (code_taker_name.F K) code_taker_name.cv (entryD 147 wire_Reader_End.sig (wire_Reader_End.F K) wire_Reader_End.cv noCalls))))))))
theorem C_ok {α : Type} (K : Nat) : CallsOk (α := α) M (C K) := (entryD_ok (entryD_ok (entryD_ok (entryD_ok (entryD_ok (entryD_ok (entryD_ok (entryD_ok noCalls_ok (by rfl) Tryz.func147 (by kernel_rfl) rfl (wire_Reader_End.rets K)) (by rfl) Tryz.func146 (by kernel_rfl) rfl (code_taker_name.rets K)) (by rfl) Tryz.func145 (by kernel_rfl) rfl (code_taker_function.rets K)) (by rfl) Tryz.func144 (by kernel_rfl) rfl (code_taker_signed.rets K)) (by rfl) Tryz.func143 (by kernel_rfl) rfl (code_taker_upto.rets K)) (by rfl) Tryz.func93 (by kernel_rfl) rfl (fault_At.rets K)) (by rfl) Tryz.func142 (by kernel_rfl) rfl (wire_Reader_Raw.rets K)) (by rfl) Tryz.func141 (by kernel_rfl) rfl (wire_Reader_At.rets K))
noncomputable def CP {α : Type} (K : Nat) : CutBy α := (cpPut 4 (rpCut M bindC [.bool] [26] (C K) (eqBy M.P)) noCuts)
theorem CP_ok {α : Type} (K : Nat)  : CutsOk (α := α) M 2 (CP K) := (cpPut_ok (rpCut_ok (C_ok K) (eqBy_ok _) (by kernel_rfl)) noCuts_ok)
noncomputable def l2.h : SSh := ⟨[0, 2, 3, 60, 61], (.cons (.ptr 0 0) (.cons (.ptr 2 0) (.cons (.ptr 3 0) (.cons (.ty yI) (.ty yI))))), [.cells 196 0 (.cons (.ptr 1 0) (.ty .err)), .cells 199 0 (.cons (.ty (.slice (.int .u8))) (.ty yI)), .cells 35 0 (.cons (.own 4) (.cons (.own 5) (.own 6))), .cells 35 0 (.cons (.own 7) (.cons (.own 8) (.own 9))), .list 2 yI [], .list 47 yFunc [], .list 110 yImport [], .list 2 yI [], .list 47 yFunc [], .list 110 yImport []]⟩
noncomputable def l2.x : SSh := ⟨[0, 2, 3], (.cons (.ptr 0 0) (.cons (.ptr 2 0) (.ptr 3 0))), [.cells 196 0 (.cons (.ptr 1 0) (.ty .err)), .cells 199 0 (.cons (.ty (.slice (.int .u8))) (.ty yI)), .cells 35 0 (.cons (.own 4) (.cons (.own 5) (.own 6))), .cells 35 0 (.cons (.own 7) (.cons (.own 8) (.own 9))), .list 2 yI [], .list 47 yFunc [], .list 110 yImport [], .list 2 yI [], .list 47 yFunc [], .list 110 yImport []]⟩
noncomputable def l2.cx : l2.h.I → (Err × Int × List LImport) → l2.x.I := fun x r => (((), ((), ())), (((), r.1), ((x.2.2.1.1, r.2.1), (((), ((), ())), (((), ((), ())), (x.2.2.2.2.2.1, (x.2.2.2.2.2.2.1, (x.2.2.2.2.2.2.2.1, (x.2.2.2.2.2.2.2.2.1, (x.2.2.2.2.2.2.2.2.2.1, (r.2.2, ())))))))))))
noncomputable def l2.f (K : Nat) : Nat → Int → Int → Err → List Int → Int → List LImport → Option (Err × Int × List LImport)
  | 0, _, _, _, _, _, _ => none
  | k + 1, a0, a1, a2, a3, a4, a10 => bif decide (a1 < a0) then (code_taker_name.f K a2 a3 a4).bind fun t => (code_taker_upto.f K (4 : Int) t.2.1 a3 t.2.2).bind fun t_1 => bif (a10.length + [(t.1, t_1.1)].length).ble (100000 : Nat) then l2.f K k a0 (IntKind.i64.wrap (a1 + (1 : Int))) t_1.2.1 a3 t_1.2.2 (a10 ++ [(t.1, t_1.1)]) else none else some (a2, a4, a10)
noncomputable def l2.F (K : Nat) (k : Nat) : l2.h.I → Option (Err × Int × List LImport) := fun x => l2.f K k x.1.2.2.2.1 x.1.2.2.2.2 x.2.1.2 x.2.2.1.1 x.2.2.1.2 x.2.2.2.2.2.2.2.2.2.2.1
noncomputable def l2.lp {α : Type} (K : Nat) : St → Kn α → Option α := lpX 2 88 4 l2.h l2.x (l2.F K K) l2.cx
noncomputable def l2.c : Code := nthLoop Tryz.f99 2
noncomputable def l2.LP {α : Type} (K : Nat) : LoopsBy α := noLoops
theorem l2.eq (K : Nat) (k : Nat) (a0 : Int) (a1 : Int) (a2 : Err) (a3 : List Int) (a4 : Int) (a5 : List Int) (a6 : List LFunc) (a7 : List LImport) (a8 : List Int) (a9 : List LFunc) (a10 : List LImport) : exec M (C K) (eqBy M.P) (l2.LP K) RF (CP K) 20 l2.c (Kl 2 l2.h (withCv (l2.F K k) l2.cx) (backX 2 88 4 l2.x)) (l2.h.enc 88 (((), ((), ((), (a0, a1)))), (((), a2), ((a3, a4), (((), ((), ())), (((), ((), ())), (a5, (a6, (a7, (a8, (a9, (a10, ())))))))))))) = (l2.f K (k + 1) a0 a1 a2 a3 a4 a10).bind fun r => some (l2.cx (((), ((), ((), (a0, a1)))), (((), a2), ((a3, a4), (((), ((), ())), (((), ((), ())), (a5, (a6, (a7, (a8, (a9, (a10, ()))))))))))) r) := by
  rw [l2.f]
  try simp only [el]
  kernel_rfl
theorem l2.leads (K : Nat) : ∀ k x y, withCv (l2.F K k) l2.cx x = some y → Leads M 2 (.loop l2.c) (l2.h.enc 88 x) (outX 88 4 l2.x y).1 (outX 88 4 l2.x y).2 :=
  loopX_sound (C_ok K) (eqBy_ok _) (by kernel_rfl) RF_ok (CP_ok K) (show LoopsOk M 2 (l2.LP K) (loopsOf l2.c) from (show loopsOf l2.c = [] by kernel_rfl) ▸ (noLoops_ok)) (Nat.le_of_ble_eq_true rfl) (Nat.le_of_ble_eq_true rfl) (fun x => rfl) (fun k x => l2.eq K k x.1.2.2.2.1 x.1.2.2.2.2 x.2.1.2 x.2.2.1.1 x.2.2.1.2 x.2.2.2.2.2.1 x.2.2.2.2.2.2.1 x.2.2.2.2.2.2.2.1 x.2.2.2.2.2.2.2.2.1 x.2.2.2.2.2.2.2.2.2.1 x.2.2.2.2.2.2.2.2.2.2.1)
theorem l2.lp_ok {α : Type} (K : Nat) : LoopOk (α := α) M 2 (nthLoop Tryz.f99 2) (l2.lp K) := lpX_ok (Nat.le_of_ble_eq_true rfl) (l2.leads K K)
noncomputable def l1.h : SSh := ⟨[0, 2, 3, 48, 49], (.cons (.ptr 0 0) (.cons (.ptr 2 0) (.cons (.ptr 3 0) (.cons (.ty yI) (.ty yI))))), [.cells 196 0 (.cons (.ptr 1 0) (.ty .err)), .cells 199 0 (.cons (.ty (.slice (.int .u8))) (.ty yI)), .cells 35 0 (.cons (.own 4) (.cons (.own 5) (.own 6))), .cells 35 0 (.cons (.own 7) (.cons (.own 8) (.own 9))), .list 2 yI [], .list 47 yFunc [], .list 110 yImport [], .list 2 yI [], .list 47 yFunc [], .list 110 yImport []]⟩
noncomputable def l1.x : SSh := ⟨[0, 2, 3], (.cons (.ptr 0 0) (.cons (.ptr 2 0) (.ptr 3 0))), [.cells 196 0 (.cons (.ptr 1 0) (.ty .err)), .cells 199 0 (.cons (.ty (.slice (.int .u8))) (.ty yI)), .cells 35 0 (.cons (.own 4) (.cons (.own 5) (.own 6))), .cells 35 0 (.cons (.own 7) (.cons (.own 8) (.own 9))), .list 2 yI [], .list 47 yFunc [], .list 110 yImport [], .list 2 yI [], .list 47 yFunc [], .list 110 yImport []]⟩
noncomputable def l1.cx : l1.h.I → (Err × List Int × Int × List LFunc) → l1.x.I := fun x r => (((), ((), ())), (((), r.1), ((r.2.1, r.2.2.1), (((), ((), ())), (((), ((), ())), (x.2.2.2.2.2.1, (x.2.2.2.2.2.2.1, (x.2.2.2.2.2.2.2.1, (x.2.2.2.2.2.2.2.2.1, (r.2.2.2, (x.2.2.2.2.2.2.2.2.2.2.1, ())))))))))))
noncomputable def l1.f (K : Nat) : Nat → Int → Int → Err → List Int → Int → List LFunc → Option (Err × List Int × Int × List LFunc)
  | 0, _, _, _, _, _, _ => none
  | k + 1, a0, a1, a2, a3, a4, a9 => bif decide (a1 < a0) then (code_taker_function.f K a2 a3 a4).bind fun t => bif (a9.length + [(t.1, t.2.1, t.2.2.1, t.2.2.2.1)].length).ble (100000 : Nat) then l1.f K k a0 (IntKind.i64.wrap (a1 + (1 : Int))) t.2.2.2.2.1 t.2.2.2.2.2.1 t.2.2.2.2.2.2 (a9 ++ [(t.1, t.2.1, t.2.2.1, t.2.2.2.1)]) else none else some (a2, a3, a4, a9)
noncomputable def l1.F (K : Nat) (k : Nat) : l1.h.I → Option (Err × List Int × Int × List LFunc) := fun x => l1.f K k x.1.2.2.2.1 x.1.2.2.2.2 x.2.1.2 x.2.2.1.1 x.2.2.1.2 x.2.2.2.2.2.2.2.2.2.1
noncomputable def l1.lp {α : Type} (K : Nat) : St → Kn α → Option α := lpX 2 88 2 l1.h l1.x (l1.F K K) l1.cx
noncomputable def l1.c : Code := nthLoop Tryz.f99 1
noncomputable def l1.LP {α : Type} (K : Nat) : LoopsBy α := noLoops
theorem l1.eq (K : Nat) (k : Nat) (a0 : Int) (a1 : Int) (a2 : Err) (a3 : List Int) (a4 : Int) (a5 : List Int) (a6 : List LFunc) (a7 : List LImport) (a8 : List Int) (a9 : List LFunc) (a10 : List LImport) : exec M (C K) (eqBy M.P) (l1.LP K) RF (CP K) 20 l1.c (Kl 2 l1.h (withCv (l1.F K k) l1.cx) (backX 2 88 2 l1.x)) (l1.h.enc 88 (((), ((), ((), (a0, a1)))), (((), a2), ((a3, a4), (((), ((), ())), (((), ((), ())), (a5, (a6, (a7, (a8, (a9, (a10, ())))))))))))) = (l1.f K (k + 1) a0 a1 a2 a3 a4 a9).bind fun r => some (l1.cx (((), ((), ((), (a0, a1)))), (((), a2), ((a3, a4), (((), ((), ())), (((), ((), ())), (a5, (a6, (a7, (a8, (a9, (a10, ()))))))))))) r) := by
  rw [l1.f]
  try simp only [el]
  kernel_rfl
theorem l1.leads (K : Nat) : ∀ k x y, withCv (l1.F K k) l1.cx x = some y → Leads M 2 (.loop l1.c) (l1.h.enc 88 x) (outX 88 2 l1.x y).1 (outX 88 2 l1.x y).2 :=
  loopX_sound (C_ok K) (eqBy_ok _) (by kernel_rfl) RF_ok (CP_ok K) (show LoopsOk M 2 (l1.LP K) (loopsOf l1.c) from (show loopsOf l1.c = [] by kernel_rfl) ▸ (noLoops_ok)) (Nat.le_of_ble_eq_true rfl) (Nat.le_of_ble_eq_true rfl) (fun x => rfl) (fun k x => l1.eq K k x.1.2.2.2.1 x.1.2.2.2.2 x.2.1.2 x.2.2.1.1 x.2.2.1.2 x.2.2.2.2.2.1 x.2.2.2.2.2.2.1 x.2.2.2.2.2.2.2.1 x.2.2.2.2.2.2.2.2.1 x.2.2.2.2.2.2.2.2.2.1 x.2.2.2.2.2.2.2.2.2.2.1)
theorem l1.lp_ok {α : Type} (K : Nat) : LoopOk (α := α) M 2 (nthLoop Tryz.f99 1) (l1.lp K) := lpX_ok (Nat.le_of_ble_eq_true rfl) (l1.leads K K)
noncomputable def l0.h : SSh := ⟨[0, 2, 3, 36, 37], (.cons (.ptr 0 0) (.cons (.ptr 2 0) (.cons (.ptr 3 0) (.cons (.ty yI) (.ty yI))))), [.cells 196 0 (.cons (.ptr 1 0) (.ty .err)), .cells 199 0 (.cons (.ty (.slice (.int .u8))) (.ty yI)), .cells 35 0 (.cons (.own 4) (.cons (.own 5) (.own 6))), .cells 35 0 (.cons (.own 7) (.cons (.own 8) (.own 9))), .list 2 yI [], .list 47 yFunc [], .list 110 yImport [], .list 2 yI [], .list 47 yFunc [], .list 110 yImport []]⟩
noncomputable def l0.x : SSh := ⟨[0, 2, 3], (.cons (.ptr 0 0) (.cons (.ptr 2 0) (.ptr 3 0))), [.cells 196 0 (.cons (.ptr 1 0) (.ty .err)), .cells 199 0 (.cons (.ty (.slice (.int .u8))) (.ty yI)), .cells 35 0 (.cons (.own 4) (.cons (.own 5) (.own 6))), .cells 35 0 (.cons (.own 7) (.cons (.own 8) (.own 9))), .list 2 yI [], .list 47 yFunc [], .list 110 yImport [], .list 2 yI [], .list 47 yFunc [], .list 110 yImport []]⟩
noncomputable def l0.cx : l0.h.I → (Err × Int × List Int) → l0.x.I := fun x r => (((), ((), ())), (((), r.1), ((x.2.2.1.1, r.2.1), (((), ((), ())), (((), ((), ())), (x.2.2.2.2.2.1, (x.2.2.2.2.2.2.1, (x.2.2.2.2.2.2.2.1, (r.2.2, (x.2.2.2.2.2.2.2.2.2.1, (x.2.2.2.2.2.2.2.2.2.2.1, ())))))))))))
noncomputable def l0.f (K : Nat) : Nat → Int → Int → Err → List Int → Int → List Int → Option (Err × Int × List Int)
  | 0, _, _, _, _, _, _ => none
  | k + 1, a0, a1, a2, a3, a4, a8 => bif decide (a1 < a0) then (code_taker_signed.f K a2 a3 a4).bind fun t => bif (a8.length + [t.1].length).ble (100000 : Nat) then l0.f K k a0 (IntKind.i64.wrap (a1 + (1 : Int))) t.2.1 a3 t.2.2 (a8 ++ [t.1]) else none else some (a2, a4, a8)
noncomputable def l0.F (K : Nat) (k : Nat) : l0.h.I → Option (Err × Int × List Int) := fun x => l0.f K k x.1.2.2.2.1 x.1.2.2.2.2 x.2.1.2 x.2.2.1.1 x.2.2.1.2 x.2.2.2.2.2.2.2.2.1
noncomputable def l0.lp {α : Type} (K : Nat) : St → Kn α → Option α := lpX 2 88 0 l0.h l0.x (l0.F K K) l0.cx
noncomputable def l0.c : Code := nthLoop Tryz.f99 0
noncomputable def l0.LP {α : Type} (K : Nat) : LoopsBy α := noLoops
theorem l0.eq (K : Nat) (k : Nat) (a0 : Int) (a1 : Int) (a2 : Err) (a3 : List Int) (a4 : Int) (a5 : List Int) (a6 : List LFunc) (a7 : List LImport) (a8 : List Int) (a9 : List LFunc) (a10 : List LImport) : exec M (C K) (eqBy M.P) (l0.LP K) RF (CP K) 20 l0.c (Kl 2 l0.h (withCv (l0.F K k) l0.cx) (backX 2 88 0 l0.x)) (l0.h.enc 88 (((), ((), ((), (a0, a1)))), (((), a2), ((a3, a4), (((), ((), ())), (((), ((), ())), (a5, (a6, (a7, (a8, (a9, (a10, ())))))))))))) = (l0.f K (k + 1) a0 a1 a2 a3 a4 a8).bind fun r => some (l0.cx (((), ((), ((), (a0, a1)))), (((), a2), ((a3, a4), (((), ((), ())), (((), ((), ())), (a5, (a6, (a7, (a8, (a9, (a10, ()))))))))))) r) := by
  rw [l0.f]
  try simp only [el]
  kernel_rfl
theorem l0.leads (K : Nat) : ∀ k x y, withCv (l0.F K k) l0.cx x = some y → Leads M 2 (.loop l0.c) (l0.h.enc 88 x) (outX 88 0 l0.x y).1 (outX 88 0 l0.x y).2 :=
  loopX_sound (C_ok K) (eqBy_ok _) (by kernel_rfl) RF_ok (CP_ok K) (show LoopsOk M 2 (l0.LP K) (loopsOf l0.c) from (show loopsOf l0.c = [] by kernel_rfl) ▸ (noLoops_ok)) (Nat.le_of_ble_eq_true rfl) (Nat.le_of_ble_eq_true rfl) (fun x => rfl) (fun k x => l0.eq K k x.1.2.2.2.1 x.1.2.2.2.2 x.2.1.2 x.2.2.1.1 x.2.2.1.2 x.2.2.2.2.2.1 x.2.2.2.2.2.2.1 x.2.2.2.2.2.2.2.1 x.2.2.2.2.2.2.2.2.1 x.2.2.2.2.2.2.2.2.2.1 x.2.2.2.2.2.2.2.2.2.2.1)
theorem l0.lp_ok {α : Type} (K : Nat) : LoopOk (α := α) M 2 (nthLoop Tryz.f99 0) (l0.lp K) := lpX_ok (Nat.le_of_ble_eq_true rfl) (l0.leads K K)
noncomputable def f (K : Nat) (a1 : List Int) (a2 : Int) : Option (List Int × List LFunc × List LImport × Err × List Int × Int) := (wire_Reader_At.f K).bind fun t => (wire_Reader_Raw.f K (3 : Int) a1 a2).bind fun t => bindC (bif bif false then !t.2.1.isNil else t.2.1.isNil then some !(strOf t.1).toList == (ByteArray.mk #[(65 : UInt8), (86 : UInt8), (1 : UInt8)]).toList else some false) fun t_1 => bif t_1 then (fault_At.f K (Err.no (3 : Int)) [a2]).bind fun t_2 => (code_taker_upto.f K (16 : Int) t_2 a1 t.2.2).bind fun t => (l0.f K K t.1 (0 : Int) t.2.1 a1 t.2.2 []).bind fun t => (code_taker_upto.f K (24 : Int) t.1 a1 t.2.1).bind fun t_3 => (l1.f K K t_3.1 (0 : Int) t_3.2.1 a1 t_3.2.2 []).bind fun t_4 => (code_taker_upto.f K (24 : Int) t_4.1 t_4.2.1 t_4.2.2.1).bind fun t_5 => (l2.f K K t_5.1 (0 : Int) t_5.2.1 t_4.2.1 t_5.2.2 []).bind fun t_6 => bif bif false then !t_6.1.isNil else t_6.1.isNil then (wire_Reader_End.f K t_4.2.1 t_6.2.1).bind fun t_7 => some (t.2.2, t_4.2.2.2, t_6.2.2, t_7, t_4.2.1, t_6.2.1) else some (t.2.2, t_4.2.2.2, t_6.2.2, t_6.1, t_4.2.1, t_6.2.1) else (code_taker_upto.f K (16 : Int) t.2.1 a1 t.2.2).bind fun t => (l0.f K K t.1 (0 : Int) t.2.1 a1 t.2.2 []).bind fun t => (code_taker_upto.f K (24 : Int) t.1 a1 t.2.1).bind fun t_2 => (l1.f K K t_2.1 (0 : Int) t_2.2.1 a1 t_2.2.2 []).bind fun t_3 => (code_taker_upto.f K (24 : Int) t_3.1 t_3.2.1 t_3.2.2.1).bind fun t_4 => (l2.f K K t_4.1 (0 : Int) t_4.2.1 t_3.2.1 t_4.2.2 []).bind fun t_5 => bif bif false then !t_5.1.isNil else t_5.1.isNil then (wire_Reader_End.f K t_3.2.1 t_5.2.1).bind fun t_6 => some (t.2.2, t_3.2.2.2, t_5.2.2, t_6, t_3.2.1, t_5.2.1) else some (t.2.2, t_3.2.2.2, t_5.2.2, t_5.1, t_3.2.1, t_5.2.1)
noncomputable def F (K : Nat) : sig.In → Option (List Int × List LFunc × List LImport × Err × List Int × Int) := fun x => f K x.2.2.1.1 x.2.2.1.2
noncomputable def cv : sig.In → (List Int × List LFunc × List LImport × Err × List Int × Int) → sig.Ou := fun x r => ((r.1, (r.2.1, r.2.2.1)), (((), r.2.2.2.1), ((r.2.2.2.2.1, r.2.2.2.2.2), ())))
noncomputable def LP {α : Type} (K : Nat) : LoopsBy α := (lpPut 8 (l0.lp K) (lpPut 12 (l1.lp K) (lpPut 16 (l2.lp K) noLoops)))
theorem eq (K : Nat) (a0 : Err) (a1 : List Int) (a2 : Int) : runF M sig (C K) (eqBy M.P) (LP K) RF (CP K) 20 Tryz.f99 (bodyOf Tryz.f99) ((), (((), a0), ((a1, a2), ()))) = (f K a1 a2).bind fun r => some (cv ((), (((), a0), ((a1, a2), ()))) r) := by
  unfold f
  try simp only [el]
  kernel_rfl
theorem rets (K : Nat) : ∀ x y, withCv (F K) cv x = some y → Rets M 99 sig x y := fun x y h => runF_rets (L := 20) (C_ok K) (eqBy_ok _) (by kernel_rfl) RF_ok (CP_ok K) (show LoopsOk M 2 (LP K) (loopsOf (bodyOf Tryz.f99)) from (show loopsOf (bodyOf Tryz.f99) = [nthLoop Tryz.f99 0, nthLoop Tryz.f99 1, nthLoop Tryz.f99 2] by kernel_rfl) ▸ (loopsOk_put (key := 8) (by kernel_rfl) (l0.lp_ok K) (loopsOk_put (key := 12) (by kernel_rfl) (l1.lp_ok K) (loopsOk_put (key := 16) (by kernel_rfl) (l2.lp_ok K) noLoops_ok (by kernel_rfl)) (by kernel_rfl)) (by kernel_rfl))) (Nat.le_of_ble_eq_true rfl) Tryz.func99 (by kernel_rfl) ((eq K x.2.1.2 x.2.2.1.1 x.2.2.1.2).trans h)
end code_taker_module
namespace code_Take
/-! ### code_Take: function 46 -/
noncomputable def sig : Sig := ⟨(.ptr 0 0), [.cells 199 0 (.cons (.ty (.slice (.int .u8))) (.ty yI))], (.cons (.agg (.cons (.ty (.slice yI)) (.cons (.ty (.slice yFunc)) (.ty (.slice yImport))))) (.ty .err)), [.cells 199 0 (.cons (.ty (.slice (.int .u8))) (.ty yI))]⟩
noncomputable def RF : RefitBy := noRefit
theorem RF_ok : RefitOk M 1 RF := noRefit_ok
noncomputable def C {α : Type} (K : Nat) : CallsBy α := (entryD 99 code_taker_module.sig (code_taker_module.F K) code_taker_module.cv (entryD 38 ir_Check.sig (ir_Check.F K) ir_Check.cv noCalls))
theorem C_ok {α : Type} (K : Nat) : CallsOk (α := α) M (C K) := (entryD_ok (entryD_ok noCalls_ok (by rfl) Tryz.func38 (by kernel_rfl) rfl (ir_Check.rets K)) (by rfl) Tryz.func99 (by kernel_rfl) rfl (code_taker_module.rets K))
noncomputable def CP {α : Type} (K : Nat) : CutBy α := noCuts
theorem CP_ok {α : Type} (K : Nat)  : CutsOk (α := α) M 1 (CP K) := noCuts_ok
noncomputable def f (K : Nat) (a0 : List Int) (a1 : Int) : Option (List Int × List LFunc × List LImport × Err × List Int × Int) := (code_taker_module.f K a0 a1).bind fun t => bif bif false then !t.2.2.2.1.isNil else t.2.2.2.1.isNil then (ir_Check.f K t.1 t.2.1 t.2.2.1).bind fun t_1 => bif bif true then !t_1.isNil else t_1.isNil then some ([], [], [], t_1, t.2.2.2.2.1, t.2.2.2.2.2) else some (t.1, t.2.1, t.2.2.1, Err.nil, t.2.2.2.2.1, t.2.2.2.2.2) else bif bif true then !t.2.2.2.1.isNil else t.2.2.2.1.isNil then some ([], [], [], t.2.2.2.1, t.2.2.2.2.1, t.2.2.2.2.2) else some (t.1, t.2.1, t.2.2.1, Err.nil, t.2.2.2.2.1, t.2.2.2.2.2)
noncomputable def F (K : Nat) : sig.In → Option (List Int × List LFunc × List LImport × Err × List Int × Int) := fun x => f K x.2.1.1 x.2.1.2
noncomputable def cv : sig.In → (List Int × List LFunc × List LImport × Err × List Int × Int) → sig.Ou := fun x r => (((r.1, (r.2.1, r.2.2.1)), r.2.2.2.1), ((r.2.2.2.2.1, r.2.2.2.2.2), ()))
noncomputable def LP {α : Type} (K : Nat) : LoopsBy α := noLoops
theorem eq (K : Nat) (a0 : List Int) (a1 : Int) : runF M sig (C K) (eqBy M.P) (LP K) RF (CP K) 20 Tryz.f46 (bodyOf Tryz.f46) ((), ((a0, a1), ())) = (f K a0 a1).bind fun r => some (cv ((), ((a0, a1), ())) r) := by
  unfold f
  try simp only [el]
  kernel_rfl
theorem rets (K : Nat) : ∀ x y, withCv (F K) cv x = some y → Rets M 46 sig x y := fun x y h => runF_rets (L := 20) (C_ok K) (eqBy_ok _) (by kernel_rfl) RF_ok (CP_ok K) (show LoopsOk M 1 (LP K) (loopsOf (bodyOf Tryz.f46)) from (show loopsOf (bodyOf Tryz.f46) = [] by kernel_rfl) ▸ noLoops_ok) (Nat.le_of_ble_eq_true rfl) Tryz.func46 (by kernel_rfl) ((eq K x.2.1.1 x.2.1.2).trans h)
end code_Take
namespace code_Read
/-! ### code_Read: function 10 -/
noncomputable def sig : Sig := ⟨(.ty (.slice (.int .u8))), [], (.cons (.agg (.cons (.ty (.slice yI)) (.cons (.ty (.slice yFunc)) (.ty (.slice yImport))))) (.ty .err)), []⟩
noncomputable def RF : RefitBy := noRefit
theorem RF_ok : RefitOk M 0 RF := noRefit_ok
noncomputable def C {α : Type} (K : Nat) : CallsBy α := (entryD 47 wire_Read.sig (wire_Read.F K) wire_Read.cv (entryD 46 code_Take.sig (code_Take.F K) code_Take.cv noCalls))
theorem C_ok {α : Type} (K : Nat) : CallsOk (α := α) M (C K) := (entryD_ok (entryD_ok noCalls_ok (by rfl) Tryz.func46 (by kernel_rfl) rfl (code_Take.rets K)) (by rfl) Tryz.func47 (by kernel_rfl) rfl (wire_Read.rets K))
noncomputable def CP {α : Type} (K : Nat) : CutBy α := noCuts
theorem CP_ok {α : Type} (K : Nat)  : CutsOk (α := α) M 0 (CP K) := noCuts_ok
noncomputable def f (K : Nat) (a0 : List Int) : Option (List Int × List LFunc × List LImport × Err) := (wire_Read.f K a0).bind fun t => (code_Take.f K t.1 t.2).bind fun t => some (t.1, t.2.1, t.2.2.1, t.2.2.2.1)
noncomputable def F (K : Nat) : sig.In → Option (List Int × List LFunc × List LImport × Err) := fun x => f K x.1
noncomputable def cv : sig.In → (List Int × List LFunc × List LImport × Err) → sig.Ou := fun x r => (((r.1, (r.2.1, r.2.2.1)), r.2.2.2), ())
noncomputable def LP {α : Type} (K : Nat) : LoopsBy α := noLoops
theorem eq (K : Nat) (a0 : List Int) : runF M sig (C K) (eqBy M.P) (LP K) RF (CP K) 20 Tryz.f10 (bodyOf Tryz.f10) (a0, ()) = (f K a0).bind fun r => some (cv (a0, ()) r) := by
  unfold f
  try simp only [el]
  kernel_rfl
theorem rets (K : Nat) : ∀ x y, withCv (F K) cv x = some y → Rets M 10 sig x y := fun x y h => runF_rets (L := 20) (C_ok K) (eqBy_ok _) (by kernel_rfl) RF_ok (CP_ok K) (show LoopsOk M 0 (LP K) (loopsOf (bodyOf Tryz.f10)) from (show loopsOf (bodyOf Tryz.f10) = [] by kernel_rfl) ▸ noLoops_ok) (Nat.le_of_ble_eq_true rfl) Tryz.func10 (by kernel_rfl) ((eq K x.1).trans h)
end code_Read
noncomputable def slices_Clone_int64_int64.sig : Sig := ⟨(.ty (.slice yI)), [], (.ty (.slice yI)), []⟩
noncomputable def slices_Clone_int64_int64.f (K : Nat) (a0 : List Int) : Option (List Int) := bif (0 + a0.length).ble 100000 then some a0 else none
noncomputable def slices_Clone_int64_int64.F (K : Nat) : slices_Clone_int64_int64.sig.In → Option (List Int) := fun x => slices_Clone_int64_int64.f K x.1
noncomputable def slices_Clone_int64_int64.cv : slices_Clone_int64_int64.sig.In → (List Int) → slices_Clone_int64_int64.sig.Ou := fun x r => (r, ())
theorem slices_Clone_int64_int64.rets (K : Nat) : ∀ x y, withCv (slices_Clone_int64_int64.F K) slices_Clone_int64_int64.cv x = some y → Rets M 48 slices_Clone_int64_int64.sig x y := fun x y h =>
  clone_rets (M := M) (g := slices_Clone_int64_int64.sig) (T := yI) (e := 2) (n := 8) (L := 1) (x := x.1) (args0 := x.1) (G := fun xs => bif (0 + xs.length).ble 100000 then some (slices_Clone_int64_int64.cv (xs, ()) xs) else none) (by kernel_rfl) Tryz.func48 (show Tryz.f48.body = some (.seq _ (.seq (.seq (.region _ #[⟨some 3, .move (.tmp 0), _, _, _, none⟩, ⟨some 4, .binOp .eql _ (.tmp 3) (.const (.slice none 0 0)) _, _, _, _, none⟩] false) _) _)) from rfl)
    (by kernel_rfl) rfl rfl (by kernel_rfl) (by decide) (by kernel_rfl) (by kernel_rfl) (by kernel_rfl) (by kernel_rfl) (by kernel_rfl) (by kernel_rfl) (Eq.trans (show (bif (0 + x.1.length).ble 100000 then some (slices_Clone_int64_int64.cv x x.1) else none) = (bif (0 + x.1.length).ble 100000 then some x.1 else none).bind fun r => some (slices_Clone_int64_int64.cv x r) by rw [cond_bind]; rfl) h) x.2
noncomputable def slices_Clone_int64_int64_own.sig : Sig := ⟨(.ty (.slice yI)), [], (.own 0), [.list 2 yI []]⟩
noncomputable def slices_Clone_int64_int64_own.f (K : Nat) (a0 : List Int) : Option (List Int) := bif (0 + a0.length).ble 100000 then some a0 else none
noncomputable def slices_Clone_int64_int64_own.F (K : Nat) : slices_Clone_int64_int64_own.sig.In → Option (List Int) := fun x => slices_Clone_int64_int64_own.f K x.1
noncomputable def slices_Clone_int64_int64_own.cv : slices_Clone_int64_int64_own.sig.In → (List Int) → slices_Clone_int64_int64_own.sig.Ou := fun x r => ((), (r, ()))
theorem slices_Clone_int64_int64_own.rets (K : Nat) : ∀ x y, withCv (slices_Clone_int64_int64_own.F K) slices_Clone_int64_int64_own.cv x = some y → Rets M 48 slices_Clone_int64_int64_own.sig x y := fun x y h =>
  clone_rets (M := M) (g := slices_Clone_int64_int64_own.sig) (T := yI) (e := 2) (n := 8) (L := 1) (x := x.1) (args0 := x.1) (G := fun xs => bif (0 + xs.length).ble 100000 then some (slices_Clone_int64_int64_own.cv (xs, ()) xs) else none) (by kernel_rfl) Tryz.func48 (show Tryz.f48.body = some (.seq _ (.seq (.seq (.region _ #[⟨some 3, .move (.tmp 0), _, _, _, none⟩, ⟨some 4, .binOp .eql _ (.tmp 3) (.const (.slice none 0 0)) _, _, _, _, none⟩] false) _) _)) from rfl)
    (by kernel_rfl) rfl rfl (by kernel_rfl) (by decide) (by kernel_rfl) (by kernel_rfl) (by kernel_rfl) (by kernel_rfl) (by kernel_rfl) (by kernel_rfl) (Eq.trans (show (bif (0 + x.1.length).ble 100000 then some (slices_Clone_int64_int64_own.cv x x.1) else none) = (bif (0 + x.1.length).ble 100000 then some x.1 else none).bind fun r => some (slices_Clone_int64_int64_own.cv x r) by rw [cond_bind]; rfl) h) x.2
noncomputable def slices_Clone_int64_int64_in.sig : Sig := ⟨(.own 0), [.list 2 yI []], (.ty (.slice yI)), [.list 2 yI []]⟩
noncomputable def slices_Clone_int64_int64_in.f (K : Nat) (a0 : List Int) : Option (List Int) := bif (0 + a0.length).ble 100000 then some a0 else none
noncomputable def slices_Clone_int64_int64_in.F (K : Nat) : slices_Clone_int64_int64_in.sig.In → Option (List Int) := fun x => slices_Clone_int64_int64_in.f K x.2.1
noncomputable def slices_Clone_int64_int64_in.cv : slices_Clone_int64_int64_in.sig.In → (List Int) → slices_Clone_int64_int64_in.sig.Ou := fun x r => (r, (x.2.1, ()))
theorem slices_Clone_int64_int64_in.rets (K : Nat) : ∀ x y, withCv (slices_Clone_int64_int64_in.F K) slices_Clone_int64_int64_in.cv x = some y → Rets M 48 slices_Clone_int64_int64_in.sig x y := fun x y h =>
  cloneO_rets (M := M) (g := slices_Clone_int64_int64_in.sig) (T := yI) (e := 2) (n := 8) (L := 1) (x := x.2.1) (args0 := x.1) (z := x.2) (G := fun xs => bif (0 + xs.length).ble 100000 then some (slices_Clone_int64_int64_in.cv ((), (xs, ())) xs) else none) (by kernel_rfl) Tryz.func48 (show Tryz.f48.body = some (.seq _ (.seq (.seq (.region _ #[⟨some 3, .move (.tmp 0), _, _, _, none⟩, ⟨some 4, .binOp .eql _ (.tmp 3) (.const (.slice none 0 0)) _, _, _, _, none⟩] false) _) _)) from rfl)
    (by kernel_rfl) rfl rfl rfl (by decide) (by decide) (by kernel_rfl) (by decide) (by kernel_rfl) (by kernel_rfl) (by kernel_rfl) (by kernel_rfl) (by kernel_rfl) (by kernel_rfl) (Eq.trans (show (bif (0 + x.2.1.length).ble 100000 then some (slices_Clone_int64_int64_in.cv x x.2.1) else none) = (bif (0 + x.2.1.length).ble 100000 then some x.2.1 else none).bind fun r => some (slices_Clone_int64_int64_in.cv x r) by rw [cond_bind]; rfl) h)
noncomputable def slices_Clone_ir_Import_ir_Import.sig : Sig := ⟨(.ty (.slice yImport)), [], (.ty (.slice yImport)), []⟩
noncomputable def slices_Clone_ir_Import_ir_Import.f (K : Nat) (a0 : List LImport) : Option (List LImport) := bif (0 + a0.length).ble 100000 then some a0 else none
noncomputable def slices_Clone_ir_Import_ir_Import.F (K : Nat) : slices_Clone_ir_Import_ir_Import.sig.In → Option (List LImport) := fun x => slices_Clone_ir_Import_ir_Import.f K x.1
noncomputable def slices_Clone_ir_Import_ir_Import.cv : slices_Clone_ir_Import_ir_Import.sig.In → (List LImport) → slices_Clone_ir_Import_ir_Import.sig.Ou := fun x r => (r, ())
theorem slices_Clone_ir_Import_ir_Import.rets (K : Nat) : ∀ x y, withCv (slices_Clone_ir_Import_ir_Import.F K) slices_Clone_ir_Import_ir_Import.cv x = some y → Rets M 49 slices_Clone_ir_Import_ir_Import.sig x y := fun x y h =>
  clone_rets (M := M) (g := slices_Clone_ir_Import_ir_Import.sig) (T := yImport) (e := 110) (n := 8) (L := 1) (x := x.1) (args0 := x.1) (G := fun xs => bif (0 + xs.length).ble 100000 then some (slices_Clone_ir_Import_ir_Import.cv (xs, ()) xs) else none) (by kernel_rfl) Tryz.func49 (show Tryz.f49.body = some (.seq _ (.seq (.seq (.region _ #[⟨some 3, .move (.tmp 0), _, _, _, none⟩, ⟨some 4, .binOp .eql _ (.tmp 3) (.const (.slice none 0 0)) _, _, _, _, none⟩] false) _) _)) from rfl)
    (by kernel_rfl) rfl rfl (by kernel_rfl) (by decide) (by kernel_rfl) (by kernel_rfl) (by kernel_rfl) (by kernel_rfl) (by kernel_rfl) (by kernel_rfl) (Eq.trans (show (bif (0 + x.1.length).ble 100000 then some (slices_Clone_ir_Import_ir_Import.cv x x.1) else none) = (bif (0 + x.1.length).ble 100000 then some x.1 else none).bind fun r => some (slices_Clone_ir_Import_ir_Import.cv x r) by rw [cond_bind]; rfl) h) x.2
noncomputable def slices_Clone_ir_Import_ir_Import_own.sig : Sig := ⟨(.ty (.slice yImport)), [], (.own 0), [.list 110 yImport []]⟩
noncomputable def slices_Clone_ir_Import_ir_Import_own.f (K : Nat) (a0 : List LImport) : Option (List LImport) := bif (0 + a0.length).ble 100000 then some a0 else none
noncomputable def slices_Clone_ir_Import_ir_Import_own.F (K : Nat) : slices_Clone_ir_Import_ir_Import_own.sig.In → Option (List LImport) := fun x => slices_Clone_ir_Import_ir_Import_own.f K x.1
noncomputable def slices_Clone_ir_Import_ir_Import_own.cv : slices_Clone_ir_Import_ir_Import_own.sig.In → (List LImport) → slices_Clone_ir_Import_ir_Import_own.sig.Ou := fun x r => ((), (r, ()))
theorem slices_Clone_ir_Import_ir_Import_own.rets (K : Nat) : ∀ x y, withCv (slices_Clone_ir_Import_ir_Import_own.F K) slices_Clone_ir_Import_ir_Import_own.cv x = some y → Rets M 49 slices_Clone_ir_Import_ir_Import_own.sig x y := fun x y h =>
  clone_rets (M := M) (g := slices_Clone_ir_Import_ir_Import_own.sig) (T := yImport) (e := 110) (n := 8) (L := 1) (x := x.1) (args0 := x.1) (G := fun xs => bif (0 + xs.length).ble 100000 then some (slices_Clone_ir_Import_ir_Import_own.cv (xs, ()) xs) else none) (by kernel_rfl) Tryz.func49 (show Tryz.f49.body = some (.seq _ (.seq (.seq (.region _ #[⟨some 3, .move (.tmp 0), _, _, _, none⟩, ⟨some 4, .binOp .eql _ (.tmp 3) (.const (.slice none 0 0)) _, _, _, _, none⟩] false) _) _)) from rfl)
    (by kernel_rfl) rfl rfl (by kernel_rfl) (by decide) (by kernel_rfl) (by kernel_rfl) (by kernel_rfl) (by kernel_rfl) (by kernel_rfl) (by kernel_rfl) (Eq.trans (show (bif (0 + x.1.length).ble 100000 then some (slices_Clone_ir_Import_ir_Import_own.cv x x.1) else none) = (bif (0 + x.1.length).ble 100000 then some x.1 else none).bind fun r => some (slices_Clone_ir_Import_ir_Import_own.cv x r) by rw [cond_bind]; rfl) h) x.2
noncomputable def slices_Clone_ir_Import_ir_Import_in.sig : Sig := ⟨(.own 0), [.list 110 yImport []], (.ty (.slice yImport)), [.list 110 yImport []]⟩
noncomputable def slices_Clone_ir_Import_ir_Import_in.f (K : Nat) (a0 : List LImport) : Option (List LImport) := bif (0 + a0.length).ble 100000 then some a0 else none
noncomputable def slices_Clone_ir_Import_ir_Import_in.F (K : Nat) : slices_Clone_ir_Import_ir_Import_in.sig.In → Option (List LImport) := fun x => slices_Clone_ir_Import_ir_Import_in.f K x.2.1
noncomputable def slices_Clone_ir_Import_ir_Import_in.cv : slices_Clone_ir_Import_ir_Import_in.sig.In → (List LImport) → slices_Clone_ir_Import_ir_Import_in.sig.Ou := fun x r => (r, (x.2.1, ()))
theorem slices_Clone_ir_Import_ir_Import_in.rets (K : Nat) : ∀ x y, withCv (slices_Clone_ir_Import_ir_Import_in.F K) slices_Clone_ir_Import_ir_Import_in.cv x = some y → Rets M 49 slices_Clone_ir_Import_ir_Import_in.sig x y := fun x y h =>
  cloneO_rets (M := M) (g := slices_Clone_ir_Import_ir_Import_in.sig) (T := yImport) (e := 110) (n := 8) (L := 1) (x := x.2.1) (args0 := x.1) (z := x.2) (G := fun xs => bif (0 + xs.length).ble 100000 then some (slices_Clone_ir_Import_ir_Import_in.cv ((), (xs, ())) xs) else none) (by kernel_rfl) Tryz.func49 (show Tryz.f49.body = some (.seq _ (.seq (.seq (.region _ #[⟨some 3, .move (.tmp 0), _, _, _, none⟩, ⟨some 4, .binOp .eql _ (.tmp 3) (.const (.slice none 0 0)) _, _, _, _, none⟩] false) _) _)) from rfl)
    (by kernel_rfl) rfl rfl rfl (by decide) (by decide) (by kernel_rfl) (by decide) (by kernel_rfl) (by kernel_rfl) (by kernel_rfl) (by kernel_rfl) (by kernel_rfl) (by kernel_rfl) (Eq.trans (show (bif (0 + x.2.1.length).ble 100000 then some (slices_Clone_ir_Import_ir_Import_in.cv x x.2.1) else none) = (bif (0 + x.2.1.length).ble 100000 then some x.2.1 else none).bind fun r => some (slices_Clone_ir_Import_ir_Import_in.cv x r) by rw [cond_bind]; rfl) h)
noncomputable def slices_Clone_ir_Block_ir_Block.sig : Sig := ⟨(.ty (.slice yBlock)), [], (.ty (.slice yBlock)), []⟩
noncomputable def slices_Clone_ir_Block_ir_Block.f (K : Nat) (a0 : List LBlock) : Option (List LBlock) := bif (0 + a0.length).ble 100000 then some a0 else none
noncomputable def slices_Clone_ir_Block_ir_Block.F (K : Nat) : slices_Clone_ir_Block_ir_Block.sig.In → Option (List LBlock) := fun x => slices_Clone_ir_Block_ir_Block.f K x.1
noncomputable def slices_Clone_ir_Block_ir_Block.cv : slices_Clone_ir_Block_ir_Block.sig.In → (List LBlock) → slices_Clone_ir_Block_ir_Block.sig.Ou := fun x r => (r, ())
theorem slices_Clone_ir_Block_ir_Block.rets (K : Nat) : ∀ x y, withCv (slices_Clone_ir_Block_ir_Block.F K) slices_Clone_ir_Block_ir_Block.cv x = some y → Rets M 100 slices_Clone_ir_Block_ir_Block.sig x y := fun x y h =>
  clone_rets (M := M) (g := slices_Clone_ir_Block_ir_Block.sig) (T := yBlock) (e := 91) (n := 8) (L := 1) (x := x.1) (args0 := x.1) (G := fun xs => bif (0 + xs.length).ble 100000 then some (slices_Clone_ir_Block_ir_Block.cv (xs, ()) xs) else none) (by kernel_rfl) Tryz.func100 (show Tryz.f100.body = some (.seq _ (.seq (.seq (.region _ #[⟨some 3, .move (.tmp 0), _, _, _, none⟩, ⟨some 4, .binOp .eql _ (.tmp 3) (.const (.slice none 0 0)) _, _, _, _, none⟩] false) _) _)) from rfl)
    (by kernel_rfl) rfl rfl (by kernel_rfl) (by decide) (by kernel_rfl) (by kernel_rfl) (by kernel_rfl) (by kernel_rfl) (by kernel_rfl) (by kernel_rfl) (Eq.trans (show (bif (0 + x.1.length).ble 100000 then some (slices_Clone_ir_Block_ir_Block.cv x x.1) else none) = (bif (0 + x.1.length).ble 100000 then some x.1 else none).bind fun r => some (slices_Clone_ir_Block_ir_Block.cv x r) by rw [cond_bind]; rfl) h) x.2
noncomputable def slices_Clone_ir_Block_ir_Block_own.sig : Sig := ⟨(.ty (.slice yBlock)), [], (.own 0), [.list 91 yBlock []]⟩
noncomputable def slices_Clone_ir_Block_ir_Block_own.f (K : Nat) (a0 : List LBlock) : Option (List LBlock) := bif (0 + a0.length).ble 100000 then some a0 else none
noncomputable def slices_Clone_ir_Block_ir_Block_own.F (K : Nat) : slices_Clone_ir_Block_ir_Block_own.sig.In → Option (List LBlock) := fun x => slices_Clone_ir_Block_ir_Block_own.f K x.1
noncomputable def slices_Clone_ir_Block_ir_Block_own.cv : slices_Clone_ir_Block_ir_Block_own.sig.In → (List LBlock) → slices_Clone_ir_Block_ir_Block_own.sig.Ou := fun x r => ((), (r, ()))
theorem slices_Clone_ir_Block_ir_Block_own.rets (K : Nat) : ∀ x y, withCv (slices_Clone_ir_Block_ir_Block_own.F K) slices_Clone_ir_Block_ir_Block_own.cv x = some y → Rets M 100 slices_Clone_ir_Block_ir_Block_own.sig x y := fun x y h =>
  clone_rets (M := M) (g := slices_Clone_ir_Block_ir_Block_own.sig) (T := yBlock) (e := 91) (n := 8) (L := 1) (x := x.1) (args0 := x.1) (G := fun xs => bif (0 + xs.length).ble 100000 then some (slices_Clone_ir_Block_ir_Block_own.cv (xs, ()) xs) else none) (by kernel_rfl) Tryz.func100 (show Tryz.f100.body = some (.seq _ (.seq (.seq (.region _ #[⟨some 3, .move (.tmp 0), _, _, _, none⟩, ⟨some 4, .binOp .eql _ (.tmp 3) (.const (.slice none 0 0)) _, _, _, _, none⟩] false) _) _)) from rfl)
    (by kernel_rfl) rfl rfl (by kernel_rfl) (by decide) (by kernel_rfl) (by kernel_rfl) (by kernel_rfl) (by kernel_rfl) (by kernel_rfl) (by kernel_rfl) (Eq.trans (show (bif (0 + x.1.length).ble 100000 then some (slices_Clone_ir_Block_ir_Block_own.cv x x.1) else none) = (bif (0 + x.1.length).ble 100000 then some x.1 else none).bind fun r => some (slices_Clone_ir_Block_ir_Block_own.cv x r) by rw [cond_bind]; rfl) h) x.2
noncomputable def slices_Clone_ir_Block_ir_Block_in.sig : Sig := ⟨(.own 0), [.list 91 yBlock []], (.ty (.slice yBlock)), [.list 91 yBlock []]⟩
noncomputable def slices_Clone_ir_Block_ir_Block_in.f (K : Nat) (a0 : List LBlock) : Option (List LBlock) := bif (0 + a0.length).ble 100000 then some a0 else none
noncomputable def slices_Clone_ir_Block_ir_Block_in.F (K : Nat) : slices_Clone_ir_Block_ir_Block_in.sig.In → Option (List LBlock) := fun x => slices_Clone_ir_Block_ir_Block_in.f K x.2.1
noncomputable def slices_Clone_ir_Block_ir_Block_in.cv : slices_Clone_ir_Block_ir_Block_in.sig.In → (List LBlock) → slices_Clone_ir_Block_ir_Block_in.sig.Ou := fun x r => (r, (x.2.1, ()))
theorem slices_Clone_ir_Block_ir_Block_in.rets (K : Nat) : ∀ x y, withCv (slices_Clone_ir_Block_ir_Block_in.F K) slices_Clone_ir_Block_ir_Block_in.cv x = some y → Rets M 100 slices_Clone_ir_Block_ir_Block_in.sig x y := fun x y h =>
  cloneO_rets (M := M) (g := slices_Clone_ir_Block_ir_Block_in.sig) (T := yBlock) (e := 91) (n := 8) (L := 1) (x := x.2.1) (args0 := x.1) (z := x.2) (G := fun xs => bif (0 + xs.length).ble 100000 then some (slices_Clone_ir_Block_ir_Block_in.cv ((), (xs, ())) xs) else none) (by kernel_rfl) Tryz.func100 (show Tryz.f100.body = some (.seq _ (.seq (.seq (.region _ #[⟨some 3, .move (.tmp 0), _, _, _, none⟩, ⟨some 4, .binOp .eql _ (.tmp 3) (.const (.slice none 0 0)) _, _, _, _, none⟩] false) _) _)) from rfl)
    (by kernel_rfl) rfl rfl rfl (by decide) (by decide) (by kernel_rfl) (by decide) (by kernel_rfl) (by kernel_rfl) (by kernel_rfl) (by kernel_rfl) (by kernel_rfl) (by kernel_rfl) (Eq.trans (show (bif (0 + x.2.1.length).ble 100000 then some (slices_Clone_ir_Block_ir_Block_in.cv x x.2.1) else none) = (bif (0 + x.2.1.length).ble 100000 then some x.2.1 else none).bind fun r => some (slices_Clone_ir_Block_ir_Block_in.cv x r) by rw [cond_bind]; rfl) h)
noncomputable def slices_Clone_ir_Insn_ir_Insn.sig : Sig := ⟨(.ty (.slice yInsn)), [], (.ty (.slice yInsn)), []⟩
noncomputable def slices_Clone_ir_Insn_ir_Insn.f (K : Nat) (a0 : List LInsn) : Option (List LInsn) := bif (0 + a0.length).ble 100000 then some a0 else none
noncomputable def slices_Clone_ir_Insn_ir_Insn.F (K : Nat) : slices_Clone_ir_Insn_ir_Insn.sig.In → Option (List LInsn) := fun x => slices_Clone_ir_Insn_ir_Insn.f K x.1
noncomputable def slices_Clone_ir_Insn_ir_Insn.cv : slices_Clone_ir_Insn_ir_Insn.sig.In → (List LInsn) → slices_Clone_ir_Insn_ir_Insn.sig.Ou := fun x r => (r, ())
theorem slices_Clone_ir_Insn_ir_Insn.rets (K : Nat) : ∀ x y, withCv (slices_Clone_ir_Insn_ir_Insn.F K) slices_Clone_ir_Insn_ir_Insn.cv x = some y → Rets M 101 slices_Clone_ir_Insn_ir_Insn.sig x y := fun x y h =>
  clone_rets (M := M) (g := slices_Clone_ir_Insn_ir_Insn.sig) (T := yInsn) (e := 144) (n := 8) (L := 1) (x := x.1) (args0 := x.1) (G := fun xs => bif (0 + xs.length).ble 100000 then some (slices_Clone_ir_Insn_ir_Insn.cv (xs, ()) xs) else none) (by kernel_rfl) Tryz.func101 (show Tryz.f101.body = some (.seq _ (.seq (.seq (.region _ #[⟨some 3, .move (.tmp 0), _, _, _, none⟩, ⟨some 4, .binOp .eql _ (.tmp 3) (.const (.slice none 0 0)) _, _, _, _, none⟩] false) _) _)) from rfl)
    (by kernel_rfl) rfl rfl (by kernel_rfl) (by decide) (by kernel_rfl) (by kernel_rfl) (by kernel_rfl) (by kernel_rfl) (by kernel_rfl) (by kernel_rfl) (Eq.trans (show (bif (0 + x.1.length).ble 100000 then some (slices_Clone_ir_Insn_ir_Insn.cv x x.1) else none) = (bif (0 + x.1.length).ble 100000 then some x.1 else none).bind fun r => some (slices_Clone_ir_Insn_ir_Insn.cv x r) by rw [cond_bind]; rfl) h) x.2
noncomputable def slices_Clone_ir_Insn_ir_Insn_own.sig : Sig := ⟨(.ty (.slice yInsn)), [], (.own 0), [.list 144 yInsn []]⟩
noncomputable def slices_Clone_ir_Insn_ir_Insn_own.f (K : Nat) (a0 : List LInsn) : Option (List LInsn) := bif (0 + a0.length).ble 100000 then some a0 else none
noncomputable def slices_Clone_ir_Insn_ir_Insn_own.F (K : Nat) : slices_Clone_ir_Insn_ir_Insn_own.sig.In → Option (List LInsn) := fun x => slices_Clone_ir_Insn_ir_Insn_own.f K x.1
noncomputable def slices_Clone_ir_Insn_ir_Insn_own.cv : slices_Clone_ir_Insn_ir_Insn_own.sig.In → (List LInsn) → slices_Clone_ir_Insn_ir_Insn_own.sig.Ou := fun x r => ((), (r, ()))
theorem slices_Clone_ir_Insn_ir_Insn_own.rets (K : Nat) : ∀ x y, withCv (slices_Clone_ir_Insn_ir_Insn_own.F K) slices_Clone_ir_Insn_ir_Insn_own.cv x = some y → Rets M 101 slices_Clone_ir_Insn_ir_Insn_own.sig x y := fun x y h =>
  clone_rets (M := M) (g := slices_Clone_ir_Insn_ir_Insn_own.sig) (T := yInsn) (e := 144) (n := 8) (L := 1) (x := x.1) (args0 := x.1) (G := fun xs => bif (0 + xs.length).ble 100000 then some (slices_Clone_ir_Insn_ir_Insn_own.cv (xs, ()) xs) else none) (by kernel_rfl) Tryz.func101 (show Tryz.f101.body = some (.seq _ (.seq (.seq (.region _ #[⟨some 3, .move (.tmp 0), _, _, _, none⟩, ⟨some 4, .binOp .eql _ (.tmp 3) (.const (.slice none 0 0)) _, _, _, _, none⟩] false) _) _)) from rfl)
    (by kernel_rfl) rfl rfl (by kernel_rfl) (by decide) (by kernel_rfl) (by kernel_rfl) (by kernel_rfl) (by kernel_rfl) (by kernel_rfl) (by kernel_rfl) (Eq.trans (show (bif (0 + x.1.length).ble 100000 then some (slices_Clone_ir_Insn_ir_Insn_own.cv x x.1) else none) = (bif (0 + x.1.length).ble 100000 then some x.1 else none).bind fun r => some (slices_Clone_ir_Insn_ir_Insn_own.cv x r) by rw [cond_bind]; rfl) h) x.2
noncomputable def slices_Clone_ir_Insn_ir_Insn_in.sig : Sig := ⟨(.own 0), [.list 144 yInsn []], (.ty (.slice yInsn)), [.list 144 yInsn []]⟩
noncomputable def slices_Clone_ir_Insn_ir_Insn_in.f (K : Nat) (a0 : List LInsn) : Option (List LInsn) := bif (0 + a0.length).ble 100000 then some a0 else none
noncomputable def slices_Clone_ir_Insn_ir_Insn_in.F (K : Nat) : slices_Clone_ir_Insn_ir_Insn_in.sig.In → Option (List LInsn) := fun x => slices_Clone_ir_Insn_ir_Insn_in.f K x.2.1
noncomputable def slices_Clone_ir_Insn_ir_Insn_in.cv : slices_Clone_ir_Insn_ir_Insn_in.sig.In → (List LInsn) → slices_Clone_ir_Insn_ir_Insn_in.sig.Ou := fun x r => (r, (x.2.1, ()))
theorem slices_Clone_ir_Insn_ir_Insn_in.rets (K : Nat) : ∀ x y, withCv (slices_Clone_ir_Insn_ir_Insn_in.F K) slices_Clone_ir_Insn_ir_Insn_in.cv x = some y → Rets M 101 slices_Clone_ir_Insn_ir_Insn_in.sig x y := fun x y h =>
  cloneO_rets (M := M) (g := slices_Clone_ir_Insn_ir_Insn_in.sig) (T := yInsn) (e := 144) (n := 8) (L := 1) (x := x.2.1) (args0 := x.1) (z := x.2) (G := fun xs => bif (0 + xs.length).ble 100000 then some (slices_Clone_ir_Insn_ir_Insn_in.cv ((), (xs, ())) xs) else none) (by kernel_rfl) Tryz.func101 (show Tryz.f101.body = some (.seq _ (.seq (.seq (.region _ #[⟨some 3, .move (.tmp 0), _, _, _, none⟩, ⟨some 4, .binOp .eql _ (.tmp 3) (.const (.slice none 0 0)) _, _, _, _, none⟩] false) _) _)) from rfl)
    (by kernel_rfl) rfl rfl rfl (by decide) (by decide) (by kernel_rfl) (by decide) (by kernel_rfl) (by kernel_rfl) (by kernel_rfl) (by kernel_rfl) (by kernel_rfl) (by kernel_rfl) (Eq.trans (show (bif (0 + x.2.1.length).ble 100000 then some (slices_Clone_ir_Insn_ir_Insn_in.cv x x.2.1) else none) = (bif (0 + x.2.1.length).ble 100000 then some x.2.1 else none).bind fun r => some (slices_Clone_ir_Insn_ir_Insn_in.cv x r) by rw [cond_bind]; rfl) h)
noncomputable def slices_Clone_int_int.sig : Sig := ⟨(.ty (.slice yI)), [], (.ty (.slice yI)), []⟩
noncomputable def slices_Clone_int_int.f (K : Nat) (a0 : List Int) : Option (List Int) := bif (0 + a0.length).ble 100000 then some a0 else none
noncomputable def slices_Clone_int_int.F (K : Nat) : slices_Clone_int_int.sig.In → Option (List Int) := fun x => slices_Clone_int_int.f K x.1
noncomputable def slices_Clone_int_int.cv : slices_Clone_int_int.sig.In → (List Int) → slices_Clone_int_int.sig.Ou := fun x r => (r, ())
theorem slices_Clone_int_int.rets (K : Nat) : ∀ x y, withCv (slices_Clone_int_int.F K) slices_Clone_int_int.cv x = some y → Rets M 102 slices_Clone_int_int.sig x y := fun x y h =>
  clone_rets (M := M) (g := slices_Clone_int_int.sig) (T := yI) (e := 3) (n := 8) (L := 1) (x := x.1) (args0 := x.1) (G := fun xs => bif (0 + xs.length).ble 100000 then some (slices_Clone_int_int.cv (xs, ()) xs) else none) (by kernel_rfl) Tryz.func102 (show Tryz.f102.body = some (.seq _ (.seq (.seq (.region _ #[⟨some 3, .move (.tmp 0), _, _, _, none⟩, ⟨some 4, .binOp .eql _ (.tmp 3) (.const (.slice none 0 0)) _, _, _, _, none⟩] false) _) _)) from rfl)
    (by kernel_rfl) rfl rfl (by kernel_rfl) (by decide) (by kernel_rfl) (by kernel_rfl) (by kernel_rfl) (by kernel_rfl) (by kernel_rfl) (by kernel_rfl) (Eq.trans (show (bif (0 + x.1.length).ble 100000 then some (slices_Clone_int_int.cv x x.1) else none) = (bif (0 + x.1.length).ble 100000 then some x.1 else none).bind fun r => some (slices_Clone_int_int.cv x r) by rw [cond_bind]; rfl) h) x.2
noncomputable def slices_Clone_int_int_own.sig : Sig := ⟨(.ty (.slice yI)), [], (.own 0), [.list 3 yI []]⟩
noncomputable def slices_Clone_int_int_own.f (K : Nat) (a0 : List Int) : Option (List Int) := bif (0 + a0.length).ble 100000 then some a0 else none
noncomputable def slices_Clone_int_int_own.F (K : Nat) : slices_Clone_int_int_own.sig.In → Option (List Int) := fun x => slices_Clone_int_int_own.f K x.1
noncomputable def slices_Clone_int_int_own.cv : slices_Clone_int_int_own.sig.In → (List Int) → slices_Clone_int_int_own.sig.Ou := fun x r => ((), (r, ()))
theorem slices_Clone_int_int_own.rets (K : Nat) : ∀ x y, withCv (slices_Clone_int_int_own.F K) slices_Clone_int_int_own.cv x = some y → Rets M 102 slices_Clone_int_int_own.sig x y := fun x y h =>
  clone_rets (M := M) (g := slices_Clone_int_int_own.sig) (T := yI) (e := 3) (n := 8) (L := 1) (x := x.1) (args0 := x.1) (G := fun xs => bif (0 + xs.length).ble 100000 then some (slices_Clone_int_int_own.cv (xs, ()) xs) else none) (by kernel_rfl) Tryz.func102 (show Tryz.f102.body = some (.seq _ (.seq (.seq (.region _ #[⟨some 3, .move (.tmp 0), _, _, _, none⟩, ⟨some 4, .binOp .eql _ (.tmp 3) (.const (.slice none 0 0)) _, _, _, _, none⟩] false) _) _)) from rfl)
    (by kernel_rfl) rfl rfl (by kernel_rfl) (by decide) (by kernel_rfl) (by kernel_rfl) (by kernel_rfl) (by kernel_rfl) (by kernel_rfl) (by kernel_rfl) (Eq.trans (show (bif (0 + x.1.length).ble 100000 then some (slices_Clone_int_int_own.cv x x.1) else none) = (bif (0 + x.1.length).ble 100000 then some x.1 else none).bind fun r => some (slices_Clone_int_int_own.cv x r) by rw [cond_bind]; rfl) h) x.2
noncomputable def slices_Clone_int_int_in.sig : Sig := ⟨(.own 0), [.list 3 yI []], (.ty (.slice yI)), [.list 3 yI []]⟩
noncomputable def slices_Clone_int_int_in.f (K : Nat) (a0 : List Int) : Option (List Int) := bif (0 + a0.length).ble 100000 then some a0 else none
noncomputable def slices_Clone_int_int_in.F (K : Nat) : slices_Clone_int_int_in.sig.In → Option (List Int) := fun x => slices_Clone_int_int_in.f K x.2.1
noncomputable def slices_Clone_int_int_in.cv : slices_Clone_int_int_in.sig.In → (List Int) → slices_Clone_int_int_in.sig.Ou := fun x r => (r, (x.2.1, ()))
theorem slices_Clone_int_int_in.rets (K : Nat) : ∀ x y, withCv (slices_Clone_int_int_in.F K) slices_Clone_int_int_in.cv x = some y → Rets M 102 slices_Clone_int_int_in.sig x y := fun x y h =>
  cloneO_rets (M := M) (g := slices_Clone_int_int_in.sig) (T := yI) (e := 3) (n := 8) (L := 1) (x := x.2.1) (args0 := x.1) (z := x.2) (G := fun xs => bif (0 + xs.length).ble 100000 then some (slices_Clone_int_int_in.cv ((), (xs, ())) xs) else none) (by kernel_rfl) Tryz.func102 (show Tryz.f102.body = some (.seq _ (.seq (.seq (.region _ #[⟨some 3, .move (.tmp 0), _, _, _, none⟩, ⟨some 4, .binOp .eql _ (.tmp 3) (.const (.slice none 0 0)) _, _, _, _, none⟩] false) _) _)) from rfl)
    (by kernel_rfl) rfl rfl rfl (by decide) (by decide) (by kernel_rfl) (by decide) (by kernel_rfl) (by kernel_rfl) (by kernel_rfl) (by kernel_rfl) (by kernel_rfl) (by kernel_rfl) (Eq.trans (show (bif (0 + x.2.1.length).ble 100000 then some (slices_Clone_int_int_in.cv x x.2.1) else none) = (bif (0 + x.2.1.length).ble 100000 then some x.2.1 else none).bind fun r => some (slices_Clone_int_int_in.cv x r) by rw [cond_bind]; rfl) h)
namespace ir_copied
/-! ### ir_copied: function 50 -/
noncomputable def sig : Sig := ⟨(.agg (.cons (.ty .str) (.cons (.ty yI) (.cons (.ty yI) (.ty (.slice yBlock)))))), [], (.agg (.cons (.ty .str) (.cons (.ty yI) (.cons (.ty yI) (.ty (.slice yBlock)))))), []⟩
noncomputable def RF : RefitBy := (rfPut 0 47 11 ⟨[1, 2, 3, 4, 12, 13], (.cons (.ptr 0 0) (.cons (.ptr 1 0) (.cons (.ty yI) (.cons (.ty (.slice yInsn)) (.cons (.ty yI) (.ty yI)))))), [.cells 47 0 (.cons (.ty .str) (.cons (.ty yI) (.cons (.ty yI) (.own 2)))), .cells 47 0 (.cons (.ty .str) (.cons (.ty yI) (.cons (.ty yI) (.own 3)))), .list 91 yBlock [], .list 91 yBlock []]⟩ noRefit)
theorem RF_ok : RefitOk M 0 RF := rfPut_ok (Nat.le_of_ble_eq_true rfl) (noRefit_ok)
noncomputable def C {α : Type} (K : Nat) : CallsBy α := (entryD 100 slices_Clone_ir_Block_ir_Block_own.sig (slices_Clone_ir_Block_ir_Block_own.F K) slices_Clone_ir_Block_ir_Block_own.cv (entryD 101 slices_Clone_ir_Insn_ir_Insn_own.sig (slices_Clone_ir_Insn_ir_Insn_own.F K) slices_Clone_ir_Insn_ir_Insn_own.cv (entryD 102 slices_Clone_int_int.sig (slices_Clone_int_int.F K) slices_Clone_int_int.cv noCalls)))
theorem C_ok {α : Type} (K : Nat) : CallsOk (α := α) M (C K) := (entryD_ok (entryD_ok (entryD_ok noCalls_ok (by rfl) Tryz.func102 (by kernel_rfl) rfl (slices_Clone_int_int.rets K)) (by rfl) Tryz.func101 (by kernel_rfl) rfl (slices_Clone_ir_Insn_ir_Insn_own.rets K)) (by rfl) Tryz.func100 (by kernel_rfl) rfl (slices_Clone_ir_Block_ir_Block_own.rets K))
noncomputable def CP {α : Type} (K : Nat) : CutBy α := noCuts
theorem CP_ok {α : Type} (K : Nat)  : CutsOk (α := α) M 0 (CP K) := noCuts_ok
noncomputable def l1.h : SSh := ⟨[1, 2, 3, 4, 12, 13, 24, 25], (.cons (.ptr 0 0) (.cons (.ptr 1 0) (.cons (.ty yI) (.cons (.own 2) (.cons (.ty yI) (.cons (.ty yI) (.cons (.ty yI) (.ty yI)))))))), [.cells 47 0 (.cons (.ty .str) (.cons (.ty yI) (.cons (.ty yI) (.own 3)))), .cells 47 0 (.cons (.ty .str) (.cons (.ty yI) (.cons (.ty yI) (.own 4)))), .list 144 yInsn [], .list 91 yBlock [], .list 91 yBlock []]⟩
noncomputable def l1.x : SSh := ⟨[1, 2, 3, 4, 12, 13], (.cons (.ptr 0 0) (.cons (.ptr 1 0) (.cons (.ty yI) (.cons (.own 2) (.cons (.ty yI) (.ty yI)))))), [.cells 47 0 (.cons (.ty .str) (.cons (.ty yI) (.cons (.ty yI) (.own 3)))), .cells 47 0 (.cons (.ty .str) (.cons (.ty yI) (.cons (.ty yI) (.own 4)))), .list 144 yInsn [], .list 91 yBlock [], .list 91 yBlock []]⟩
noncomputable def l1.cx : l1.h.I → (List LInsn) → l1.x.I := fun x r => (((), ((), (x.1.2.2.1, ((), (x.1.2.2.2.2.1, x.1.2.2.2.2.2.1))))), ((x.2.1.1, (x.2.1.2.1, (x.2.1.2.2.1, ()))), ((x.2.2.1.1, (x.2.2.1.2.1, (x.2.2.1.2.2.1, ()))), (r, (x.2.2.2.2.1, (x.2.2.2.2.2.1, ()))))))
noncomputable def l1.f (K : Nat) : Nat → Int → Int → List LInsn → Option (List LInsn)
  | 0, _, _, _ => none
  | k + 1, a3, a4, a11 => bif decide (a4 < a3) then bif decide ((0 : Int) ≤ a4) then bif a4.toNat.blt a11.length then a11[a4.toNat]?.bind fun t => (slices_Clone_int_int.f K t.2.2.2.2.2).bind fun t => bif decide ((0 : Int) ≤ a4) then bif a4.toNat.blt a11.length then a11[a4.toNat]?.bind fun t_1 => l1.f K k a3 (IntKind.i64.wrap (a4 + (1 : Int))) (a11.set a4.toNat (t_1.1, t_1.2.1, t_1.2.2.1, t_1.2.2.2.1, t_1.2.2.2.2.1, t)) else none else none else none else none else some a11
noncomputable def l1.F (K : Nat) (k : Nat) : l1.h.I → Option (List LInsn) := fun x => l1.f K k x.1.2.2.2.2.2.2.1 x.1.2.2.2.2.2.2.2 x.2.2.2.1
noncomputable def l1.lp {α : Type} (K : Nat) : St → Kn α → Option α := lpX 0 47 2 l1.h l1.x (l1.F K K) l1.cx
noncomputable def l1.c : Code := nthLoop Tryz.f50 1
noncomputable def l1.LP {α : Type} (K : Nat) : LoopsBy α := noLoops
theorem l1.eq (K : Nat) (k : Nat) (a0 : Int) (a1 : Int) (a2 : Int) (a3 : Int) (a4 : Int) (a5 : ByteArray) (a6 : Int) (a7 : Int) (a8 : ByteArray) (a9 : Int) (a10 : Int) (a11 : List LInsn) (a12 : List LBlock) (a13 : List LBlock) : exec M (C K) (eqBy M.P) (l1.LP K) RF (CP K) 20 l1.c (Kl 0 l1.h (withCv (l1.F K k) l1.cx) (backX 0 47 2 l1.x)) (l1.h.enc 47 (((), ((), (a0, ((), (a1, (a2, (a3, a4))))))), ((a5, (a6, (a7, ()))), ((a8, (a9, (a10, ()))), (a11, (a12, (a13, ()))))))) = (l1.f K (k + 1) a3 a4 a11).bind fun r => some (l1.cx (((), ((), (a0, ((), (a1, (a2, (a3, a4))))))), ((a5, (a6, (a7, ()))), ((a8, (a9, (a10, ()))), (a11, (a12, (a13, ())))))) r) := by
  rw [l1.f]
  try simp only [el]
  kernel_rfl
theorem l1.leads (K : Nat) : ∀ k x y, withCv (l1.F K k) l1.cx x = some y → Leads M 0 (.loop l1.c) (l1.h.enc 47 x) (outX 47 2 l1.x y).1 (outX 47 2 l1.x y).2 :=
  loopX_sound (C_ok K) (eqBy_ok _) (by kernel_rfl) RF_ok (CP_ok K) (show LoopsOk M 0 (l1.LP K) (loopsOf l1.c) from (show loopsOf l1.c = [] by kernel_rfl) ▸ (noLoops_ok)) (Nat.le_of_ble_eq_true rfl) (Nat.le_of_ble_eq_true rfl) (fun x => rfl) (fun k x => l1.eq K k x.1.2.2.1 x.1.2.2.2.2.1 x.1.2.2.2.2.2.1 x.1.2.2.2.2.2.2.1 x.1.2.2.2.2.2.2.2 x.2.1.1 x.2.1.2.1 x.2.1.2.2.1 x.2.2.1.1 x.2.2.1.2.1 x.2.2.1.2.2.1 x.2.2.2.1 x.2.2.2.2.1 x.2.2.2.2.2.1)
theorem l1.lp_ok {α : Type} (K : Nat) : LoopOk (α := α) M 0 (nthLoop Tryz.f50 1) (l1.lp K) := lpX_ok (Nat.le_of_ble_eq_true rfl) (l1.leads K K)
noncomputable def l0.h : SSh := ⟨[1, 2, 12, 13], (.cons (.ptr 0 0) (.cons (.ptr 1 0) (.cons (.ty yI) (.ty yI)))), [.cells 47 0 (.cons (.ty .str) (.cons (.ty yI) (.cons (.ty yI) (.own 2)))), .cells 47 0 (.cons (.ty .str) (.cons (.ty yI) (.cons (.ty yI) (.own 3)))), .list 91 yBlock [], .list 91 yBlock []]⟩
noncomputable def l0.x : SSh := ⟨[1, 2], (.cons (.ptr 0 0) (.ptr 1 0)), [.cells 47 0 (.cons (.ty .str) (.cons (.ty yI) (.cons (.ty yI) (.own 2)))), .cells 47 0 (.cons (.ty .str) (.cons (.ty yI) (.cons (.ty yI) (.own 3)))), .list 91 yBlock [], .list 91 yBlock []]⟩
noncomputable def l0.cx : l0.h.I → (List LBlock) → l0.x.I := fun x r => (((), ()), ((x.2.1.1, (x.2.1.2.1, (x.2.1.2.2.1, ()))), ((x.2.2.1.1, (x.2.2.1.2.1, (x.2.2.1.2.2.1, ()))), (r, (x.2.2.2.2.1, ())))))
noncomputable def l0.f (K : Nat) : Nat → Int → Int → List LBlock → Option (List LBlock)
  | 0, _, _, _ => none
  | k + 1, a0, a1, a8 => bif decide (a1 < a0) then bif decide ((0 : Int) ≤ a1) then bif a1.toNat.blt a8.length then a8[a1.toNat]?.bind fun t => (slices_Clone_ir_Insn_ir_Insn_own.f K t.1).bind fun t => (l1.f K K (↑t.length : Int) (0 : Int) t).bind fun t => bif decide ((0 : Int) ≤ a1) then bif a1.toNat.blt a8.length then a8[a1.toNat]?.bind fun t_1 => l0.f K k a0 (IntKind.i64.wrap (a1 + (1 : Int))) (a8.set a1.toNat (t, t_1.2.1, t_1.2.2.1, t_1.2.2.2.1, t_1.2.2.2.2)) else none else none else none else none else some a8
noncomputable def l0.F (K : Nat) (k : Nat) : l0.h.I → Option (List LBlock) := fun x => l0.f K k x.1.2.2.1 x.1.2.2.2 x.2.2.2.1
noncomputable def l0.lp {α : Type} (K : Nat) : St → Kn α → Option α := lpX 0 47 0 l0.h l0.x (l0.F K K) l0.cx
noncomputable def l0.c : Code := nthLoop Tryz.f50 0
noncomputable def l0.LP {α : Type} (K : Nat) : LoopsBy α := (lpPut 7 (l1.lp K) noLoops)
theorem l0.eq (K : Nat) (k : Nat) (a0 : Int) (a1 : Int) (a2 : ByteArray) (a3 : Int) (a4 : Int) (a5 : ByteArray) (a6 : Int) (a7 : Int) (a8 : List LBlock) (a9 : List LBlock) : exec M (C K) (eqBy M.P) (l0.LP K) RF (CP K) 20 l0.c (Kl 0 l0.h (withCv (l0.F K k) l0.cx) (backX 0 47 0 l0.x)) (l0.h.enc 47 (((), ((), (a0, a1))), ((a2, (a3, (a4, ()))), ((a5, (a6, (a7, ()))), (a8, (a9, ())))))) = (l0.f K (k + 1) a0 a1 a8).bind fun r => some (l0.cx (((), ((), (a0, a1))), ((a2, (a3, (a4, ()))), ((a5, (a6, (a7, ()))), (a8, (a9, ()))))) r) := by
  rw [l0.f]
  try simp only [el]
  kernel_rfl
theorem l0.leads (K : Nat) : ∀ k x y, withCv (l0.F K k) l0.cx x = some y → Leads M 0 (.loop l0.c) (l0.h.enc 47 x) (outX 47 0 l0.x y).1 (outX 47 0 l0.x y).2 :=
  loopX_sound (C_ok K) (eqBy_ok _) (by kernel_rfl) RF_ok (CP_ok K) (show LoopsOk M 0 (l0.LP K) (loopsOf l0.c) from (show loopsOf l0.c = [nthLoop Tryz.f50 1] by kernel_rfl) ▸ ((loopsOk_put (key := 7) (by kernel_rfl) (l1.lp_ok K) noLoops_ok (by kernel_rfl)))) (Nat.le_of_ble_eq_true rfl) (Nat.le_of_ble_eq_true rfl) (fun x => rfl) (fun k x => l0.eq K k x.1.2.2.1 x.1.2.2.2 x.2.1.1 x.2.1.2.1 x.2.1.2.2.1 x.2.2.1.1 x.2.2.1.2.1 x.2.2.1.2.2.1 x.2.2.2.1 x.2.2.2.2.1)
theorem l0.lp_ok {α : Type} (K : Nat) : LoopOk (α := α) M 0 (nthLoop Tryz.f50 0) (l0.lp K) := lpX_ok (Nat.le_of_ble_eq_true rfl) (l0.leads K K)
noncomputable def f (K : Nat) (a3 : List LBlock) : Option (List LBlock) := (slices_Clone_ir_Block_ir_Block_own.f K a3).bind fun t => l0.f K K (↑t.length : Int) (0 : Int) t
noncomputable def F (K : Nat) : sig.In → Option (List LBlock) := fun x => f K x.1.2.2.2
noncomputable def cv : sig.In → (List LBlock) → sig.Ou := fun x r => ((x.1.1, (x.1.2.1, (x.1.2.2.1, r))), ())
noncomputable def LP {α : Type} (K : Nat) : LoopsBy α := (lpPut 3 (l0.lp K) (lpPut 7 (l1.lp K) noLoops))
theorem eq (K : Nat) (a0 : ByteArray) (a1 : Int) (a2 : Int) (a3 : List LBlock) : runF M sig (C K) (eqBy M.P) (LP K) RF (CP K) 20 Tryz.f50 (bodyOf Tryz.f50) ((a0, (a1, (a2, a3))), ()) = (f K a3).bind fun r => some (cv ((a0, (a1, (a2, a3))), ()) r) := by
  unfold f
  try simp only [el]
  kernel_rfl
theorem rets (K : Nat) : ∀ x y, withCv (F K) cv x = some y → Rets M 50 sig x y := fun x y h => runF_rets (L := 20) (C_ok K) (eqBy_ok _) (by kernel_rfl) RF_ok (CP_ok K) (show LoopsOk M 0 (LP K) (loopsOf (bodyOf Tryz.f50)) from (show loopsOf (bodyOf Tryz.f50) = [nthLoop Tryz.f50 0, nthLoop Tryz.f50 1] by kernel_rfl) ▸ (loopsOk_put (key := 3) (by kernel_rfl) (l0.lp_ok K) (loopsOk_put (key := 7) (by kernel_rfl) (l1.lp_ok K) noLoops_ok (by kernel_rfl)) (by kernel_rfl))) (Nat.le_of_ble_eq_true rfl) Tryz.func50 (by kernel_rfl) ((eq K x.1.1 x.1.2.1 x.1.2.2.1 x.1.2.2.2).trans h)
end ir_copied
namespace ir_Copy
/-! ### ir_Copy: function 11 -/
noncomputable def sig : Sig := ⟨(.agg (.cons (.ty (.slice yI)) (.cons (.ty (.slice yFunc)) (.ty (.slice yImport))))), [], (.agg (.cons (.ty (.slice yI)) (.cons (.ty (.slice yFunc)) (.ty (.slice yImport))))), []⟩
noncomputable def RF : RefitBy := noRefit
theorem RF_ok : RefitOk M 0 RF := noRefit_ok
noncomputable def C {α : Type} (K : Nat) : CallsBy α := (entryD 48 slices_Clone_int64_int64_own.sig (slices_Clone_int64_int64_own.F K) slices_Clone_int64_int64_own.cv (entryD 49 slices_Clone_ir_Import_ir_Import_own.sig (slices_Clone_ir_Import_ir_Import_own.F K) slices_Clone_ir_Import_ir_Import_own.cv (entryD 50 ir_copied.sig (ir_copied.F K) ir_copied.cv noCalls)))
theorem C_ok {α : Type} (K : Nat) : CallsOk (α := α) M (C K) := (entryD_ok (entryD_ok (entryD_ok noCalls_ok (by rfl) Tryz.func50 (by kernel_rfl) rfl (ir_copied.rets K)) (by rfl) Tryz.func49 (by kernel_rfl) rfl (slices_Clone_ir_Import_ir_Import_own.rets K)) (by rfl) Tryz.func48 (by kernel_rfl) rfl (slices_Clone_int64_int64_own.rets K))
noncomputable def CP {α : Type} (K : Nat) : CutBy α := noCuts
theorem CP_ok {α : Type} (K : Nat)  : CutsOk (α := α) M 0 (CP K) := noCuts_ok
noncomputable def l0.h : SSh := ⟨[2, 3, 14, 15, 16], (.cons (.ptr 0 0) (.cons (.ptr 1 0) (.cons (.ty (.slice yFunc)) (.cons (.ty yI) (.ty yI))))), [.cells 35 0 (.cons (.own 2) (.cons (.own 3) (.own 4))), .cells 35 0 (.cons (.own 5) (.cons (.own 6) (.own 7))), .list 2 yI [], .list 47 yFunc [], .list 110 yImport [], .list 2 yI [], .list 47 yFunc [], .list 110 yImport []]⟩
noncomputable def l0.x : SSh := ⟨[2, 3], (.cons (.ptr 0 0) (.ptr 1 0)), [.cells 35 0 (.cons (.own 2) (.cons (.own 3) (.own 4))), .cells 35 0 (.cons (.own 5) (.cons (.own 6) (.own 7))), .list 2 yI [], .list 47 yFunc [], .list 110 yImport [], .list 2 yI [], .list 47 yFunc [], .list 110 yImport []]⟩
noncomputable def l0.cx : l0.h.I → (List LFunc) → l0.x.I := fun x r => (((), ()), (((), ((), ())), (((), ((), ())), (x.2.2.2.1, (x.2.2.2.2.1, (x.2.2.2.2.2.1, (x.2.2.2.2.2.2.1, (r, (x.2.2.2.2.2.2.2.2.1, ())))))))))
noncomputable def l0.f (K : Nat) : Nat → List LFunc → Int → Int → List LFunc → Option (List LFunc)
  | 0, _, _, _, _ => none
  | k + 1, a0, a1, a2, a7 => bif decide (a2 < a1) then bif decide ((0 : Int) ≤ a2) && true then a0[a2.toNat]?.bind fun t => (ir_copied.f K t.2.2.2).bind fun t_1 => bif (a7.length + [(t.1, t.2.1, t.2.2.1, t_1)].length).ble (100000 : Nat) then l0.f K k a0 a1 (IntKind.i64.wrap (a2 + (1 : Int))) (a7 ++ [(t.1, t.2.1, t.2.2.1, t_1)]) else none else none else some a7
noncomputable def l0.F (K : Nat) (k : Nat) : l0.h.I → Option (List LFunc) := fun x => l0.f K k x.1.2.2.1 x.1.2.2.2.1 x.1.2.2.2.2 x.2.2.2.2.2.2.2.1
noncomputable def l0.lp {α : Type} (K : Nat) : St → Kn α → Option α := lpX 0 29 0 l0.h l0.x (l0.F K K) l0.cx
noncomputable def l0.c : Code := nthLoop Tryz.f11 0
noncomputable def l0.LP {α : Type} (K : Nat) : LoopsBy α := noLoops
theorem l0.eq (K : Nat) (k : Nat) (a0 : List LFunc) (a1 : Int) (a2 : Int) (a3 : List Int) (a4 : List LFunc) (a5 : List LImport) (a6 : List Int) (a7 : List LFunc) (a8 : List LImport) : exec M (C K) (eqBy M.P) (l0.LP K) RF (CP K) 20 l0.c (Kl 0 l0.h (withCv (l0.F K k) l0.cx) (backX 0 29 0 l0.x)) (l0.h.enc 29 (((), ((), (a0, (a1, a2)))), (((), ((), ())), (((), ((), ())), (a3, (a4, (a5, (a6, (a7, (a8, ())))))))))) = (l0.f K (k + 1) a0 a1 a2 a7).bind fun r => some (l0.cx (((), ((), (a0, (a1, a2)))), (((), ((), ())), (((), ((), ())), (a3, (a4, (a5, (a6, (a7, (a8, ()))))))))) r) := by
  rw [l0.f]
  try simp only [el]
  kernel_rfl
theorem l0.leads (K : Nat) : ∀ k x y, withCv (l0.F K k) l0.cx x = some y → Leads M 0 (.loop l0.c) (l0.h.enc 29 x) (outX 29 0 l0.x y).1 (outX 29 0 l0.x y).2 :=
  loopX_sound (C_ok K) (eqBy_ok _) (by kernel_rfl) RF_ok (CP_ok K) (show LoopsOk M 0 (l0.LP K) (loopsOf l0.c) from (show loopsOf l0.c = [] by kernel_rfl) ▸ (noLoops_ok)) (Nat.le_of_ble_eq_true rfl) (Nat.le_of_ble_eq_true rfl) (fun x => rfl) (fun k x => l0.eq K k x.1.2.2.1 x.1.2.2.2.1 x.1.2.2.2.2 x.2.2.2.1 x.2.2.2.2.1 x.2.2.2.2.2.1 x.2.2.2.2.2.2.1 x.2.2.2.2.2.2.2.1 x.2.2.2.2.2.2.2.2.1)
theorem l0.lp_ok {α : Type} (K : Nat) : LoopOk (α := α) M 0 (nthLoop Tryz.f11 0) (l0.lp K) := lpX_ok (Nat.le_of_ble_eq_true rfl) (l0.leads K K)
noncomputable def f (K : Nat) (a0 : List Int) (a1 : List LFunc) (a2 : List LImport) : Option (List Int × List LFunc × List LImport) := (slices_Clone_int64_int64_own.f K a0).bind fun t => (slices_Clone_ir_Import_ir_Import_own.f K a2).bind fun t_1 => (l0.f K K a1 (↑a1.length : Int) (0 : Int) []).bind fun t_2 => some (t, t_2, t_1)
noncomputable def F (K : Nat) : sig.In → Option (List Int × List LFunc × List LImport) := fun x => f K x.1.1 x.1.2.1 x.1.2.2
noncomputable def cv : sig.In → (List Int × List LFunc × List LImport) → sig.Ou := fun x r => ((r.1, (r.2.1, r.2.2)), ())
noncomputable def LP {α : Type} (K : Nat) : LoopsBy α := (lpPut 3 (l0.lp K) noLoops)
theorem eq (K : Nat) (a0 : List Int) (a1 : List LFunc) (a2 : List LImport) : runF M sig (C K) (eqBy M.P) (LP K) RF (CP K) 20 Tryz.f11 (bodyOf Tryz.f11) ((a0, (a1, a2)), ()) = (f K a0 a1 a2).bind fun r => some (cv ((a0, (a1, a2)), ()) r) := by
  unfold f
  try simp only [el]
  kernel_rfl
theorem rets (K : Nat) : ∀ x y, withCv (F K) cv x = some y → Rets M 11 sig x y := fun x y h => runF_rets (L := 20) (C_ok K) (eqBy_ok _) (by kernel_rfl) RF_ok (CP_ok K) (show LoopsOk M 0 (LP K) (loopsOf (bodyOf Tryz.f11)) from (show loopsOf (bodyOf Tryz.f11) = [nthLoop Tryz.f11 0] by kernel_rfl) ▸ (loopsOk_put (key := 3) (by kernel_rfl) (l0.lp_ok K) noLoops_ok (by kernel_rfl))) (Nat.le_of_ble_eq_true rfl) Tryz.func11 (by kernel_rfl) ((eq K x.1.1 x.1.2.1 x.1.2.2).trans h)
end ir_Copy
namespace ir_Copy_own
/-! ### ir_Copy_own: function 11 -/
noncomputable def sig : Sig := ⟨(.agg (.cons (.ty (.slice yI)) (.cons (.ty (.slice yFunc)) (.ty (.slice yImport))))), [], (.agg (.cons (.own 0) (.cons (.own 1) (.own 2)))), [.list 2 yI [], .list 47 yFunc [], .list 110 yImport []]⟩
noncomputable def RF : RefitBy := noRefit
theorem RF_ok : RefitOk M 0 RF := noRefit_ok
noncomputable def C {α : Type} (K : Nat) : CallsBy α := (entryD 48 slices_Clone_int64_int64_own.sig (slices_Clone_int64_int64_own.F K) slices_Clone_int64_int64_own.cv (entryD 49 slices_Clone_ir_Import_ir_Import_own.sig (slices_Clone_ir_Import_ir_Import_own.F K) slices_Clone_ir_Import_ir_Import_own.cv (entryD 50 ir_copied.sig (ir_copied.F K) ir_copied.cv noCalls)))
theorem C_ok {α : Type} (K : Nat) : CallsOk (α := α) M (C K) := (entryD_ok (entryD_ok (entryD_ok noCalls_ok (by rfl) Tryz.func50 (by kernel_rfl) rfl (ir_copied.rets K)) (by rfl) Tryz.func49 (by kernel_rfl) rfl (slices_Clone_ir_Import_ir_Import_own.rets K)) (by rfl) Tryz.func48 (by kernel_rfl) rfl (slices_Clone_int64_int64_own.rets K))
noncomputable def CP {α : Type} (K : Nat) : CutBy α := noCuts
theorem CP_ok {α : Type} (K : Nat)  : CutsOk (α := α) M 0 (CP K) := noCuts_ok
noncomputable def l0.h : SSh := ⟨[2, 3, 14, 15, 16], (.cons (.ptr 0 0) (.cons (.ptr 1 0) (.cons (.ty (.slice yFunc)) (.cons (.ty yI) (.ty yI))))), [.cells 35 0 (.cons (.own 2) (.cons (.own 3) (.own 4))), .cells 35 0 (.cons (.own 5) (.cons (.own 6) (.own 7))), .list 2 yI [], .list 47 yFunc [], .list 110 yImport [], .list 2 yI [], .list 47 yFunc [], .list 110 yImport []]⟩
noncomputable def l0.x : SSh := ⟨[2, 3], (.cons (.ptr 0 0) (.ptr 1 0)), [.cells 35 0 (.cons (.own 2) (.cons (.own 3) (.own 4))), .cells 35 0 (.cons (.own 5) (.cons (.own 6) (.own 7))), .list 2 yI [], .list 47 yFunc [], .list 110 yImport [], .list 2 yI [], .list 47 yFunc [], .list 110 yImport []]⟩
noncomputable def l0.cx : l0.h.I → (List LFunc) → l0.x.I := fun x r => (((), ()), (((), ((), ())), (((), ((), ())), (x.2.2.2.1, (x.2.2.2.2.1, (x.2.2.2.2.2.1, (x.2.2.2.2.2.2.1, (r, (x.2.2.2.2.2.2.2.2.1, ())))))))))
noncomputable def l0.f (K : Nat) : Nat → List LFunc → Int → Int → List LFunc → Option (List LFunc)
  | 0, _, _, _, _ => none
  | k + 1, a0, a1, a2, a7 => bif decide (a2 < a1) then bif decide ((0 : Int) ≤ a2) && true then a0[a2.toNat]?.bind fun t => (ir_copied.f K t.2.2.2).bind fun t_1 => bif (a7.length + [(t.1, t.2.1, t.2.2.1, t_1)].length).ble (100000 : Nat) then l0.f K k a0 a1 (IntKind.i64.wrap (a2 + (1 : Int))) (a7 ++ [(t.1, t.2.1, t.2.2.1, t_1)]) else none else none else some a7
noncomputable def l0.F (K : Nat) (k : Nat) : l0.h.I → Option (List LFunc) := fun x => l0.f K k x.1.2.2.1 x.1.2.2.2.1 x.1.2.2.2.2 x.2.2.2.2.2.2.2.1
noncomputable def l0.lp {α : Type} (K : Nat) : St → Kn α → Option α := lpX 0 29 0 l0.h l0.x (l0.F K K) l0.cx
noncomputable def l0.c : Code := nthLoop Tryz.f11 0
noncomputable def l0.LP {α : Type} (K : Nat) : LoopsBy α := noLoops
theorem l0.eq (K : Nat) (k : Nat) (a0 : List LFunc) (a1 : Int) (a2 : Int) (a3 : List Int) (a4 : List LFunc) (a5 : List LImport) (a6 : List Int) (a7 : List LFunc) (a8 : List LImport) : exec M (C K) (eqBy M.P) (l0.LP K) RF (CP K) 20 l0.c (Kl 0 l0.h (withCv (l0.F K k) l0.cx) (backX 0 29 0 l0.x)) (l0.h.enc 29 (((), ((), (a0, (a1, a2)))), (((), ((), ())), (((), ((), ())), (a3, (a4, (a5, (a6, (a7, (a8, ())))))))))) = (l0.f K (k + 1) a0 a1 a2 a7).bind fun r => some (l0.cx (((), ((), (a0, (a1, a2)))), (((), ((), ())), (((), ((), ())), (a3, (a4, (a5, (a6, (a7, (a8, ()))))))))) r) := by
  rw [l0.f]
  try simp only [el]
  kernel_rfl
theorem l0.leads (K : Nat) : ∀ k x y, withCv (l0.F K k) l0.cx x = some y → Leads M 0 (.loop l0.c) (l0.h.enc 29 x) (outX 29 0 l0.x y).1 (outX 29 0 l0.x y).2 :=
  loopX_sound (C_ok K) (eqBy_ok _) (by kernel_rfl) RF_ok (CP_ok K) (show LoopsOk M 0 (l0.LP K) (loopsOf l0.c) from (show loopsOf l0.c = [] by kernel_rfl) ▸ (noLoops_ok)) (Nat.le_of_ble_eq_true rfl) (Nat.le_of_ble_eq_true rfl) (fun x => rfl) (fun k x => l0.eq K k x.1.2.2.1 x.1.2.2.2.1 x.1.2.2.2.2 x.2.2.2.1 x.2.2.2.2.1 x.2.2.2.2.2.1 x.2.2.2.2.2.2.1 x.2.2.2.2.2.2.2.1 x.2.2.2.2.2.2.2.2.1)
theorem l0.lp_ok {α : Type} (K : Nat) : LoopOk (α := α) M 0 (nthLoop Tryz.f11 0) (l0.lp K) := lpX_ok (Nat.le_of_ble_eq_true rfl) (l0.leads K K)
noncomputable def f (K : Nat) (a0 : List Int) (a1 : List LFunc) (a2 : List LImport) : Option (List Int × List LFunc × List LImport) := (slices_Clone_int64_int64_own.f K a0).bind fun t => (slices_Clone_ir_Import_ir_Import_own.f K a2).bind fun t_1 => (l0.f K K a1 (↑a1.length : Int) (0 : Int) []).bind fun t_2 => some (t, t_2, t_1)
noncomputable def F (K : Nat) : sig.In → Option (List Int × List LFunc × List LImport) := fun x => f K x.1.1 x.1.2.1 x.1.2.2
noncomputable def cv : sig.In → (List Int × List LFunc × List LImport) → sig.Ou := fun x r => (((), ((), ())), (r.1, (r.2.1, (r.2.2, ()))))
noncomputable def LP {α : Type} (K : Nat) : LoopsBy α := (lpPut 3 (l0.lp K) noLoops)
theorem eq (K : Nat) (a0 : List Int) (a1 : List LFunc) (a2 : List LImport) : runF M sig (C K) (eqBy M.P) (LP K) RF (CP K) 20 Tryz.f11 (bodyOf Tryz.f11) ((a0, (a1, a2)), ()) = (f K a0 a1 a2).bind fun r => some (cv ((a0, (a1, a2)), ()) r) := by
  unfold f
  try simp only [el]
  kernel_rfl
theorem rets (K : Nat) : ∀ x y, withCv (F K) cv x = some y → Rets M 11 sig x y := fun x y h => runF_rets (L := 20) (C_ok K) (eqBy_ok _) (by kernel_rfl) RF_ok (CP_ok K) (show LoopsOk M 0 (LP K) (loopsOf (bodyOf Tryz.f11)) from (show loopsOf (bodyOf Tryz.f11) = [nthLoop Tryz.f11 0] by kernel_rfl) ▸ (loopsOk_put (key := 3) (by kernel_rfl) (l0.lp_ok K) noLoops_ok (by kernel_rfl))) (Nat.le_of_ble_eq_true rfl) Tryz.func11 (by kernel_rfl) ((eq K x.1.1 x.1.2.1 x.1.2.2).trans h)
end ir_Copy_own
namespace ir_Sets
/-! ### ir_Sets: function 107 -/
noncomputable def sig : Sig := ⟨(.agg (.cons (.ty yI) (.cons (.ty yI) (.cons (.ty yI) (.cons (.ty yI) (.cons (.ty yI) (.ty (.slice yI)))))))), [], (.cons (.ty yI) (.ty .bool)), []⟩
noncomputable def RF : RefitBy := noRefit
theorem RF_ok : RefitOk M 0 RF := noRefit_ok
noncomputable def C {α : Type} (K : Nat) : CallsBy α := (entryD 154 ir_Insn_fields.sig (ir_Insn_fields.F K) ir_Insn_fields.cv noCalls)
theorem C_ok {α : Type} (K : Nat) : CallsOk (α := α) M (C K) := (entryD_ok noCalls_ok (by rfl) Tryz.func154 (by kernel_rfl) rfl (ir_Insn_fields.rets K))
noncomputable def CP {α : Type} (K : Nat) : CutBy α := noCuts
theorem CP_ok {α : Type} (K : Nat)  : CutsOk (α := α) M 0 (CP K) := noCuts_ok
noncomputable def f (K : Nat) (a0 : Int) (a1 : Int) : Option (Int × Bool) := (ir_Insn_fields.f K a0).bind fun t => bif !t.1 then some ((0 : Int), false) else some (a1, true)
noncomputable def F (K : Nat) : sig.In → Option (Int × Bool) := fun x => f K x.1.1 x.1.2.1
noncomputable def cv : sig.In → (Int × Bool) → sig.Ou := fun x r => ((r.1, r.2), ())
noncomputable def LP {α : Type} (K : Nat) : LoopsBy α := noLoops
theorem eq (K : Nat) (a0 : Int) (a1 : Int) (a2 : Int) (a3 : Int) (a4 : Int) (a5 : List Int) : runF M sig (C K) (eqBy M.P) (LP K) RF (CP K) 20 Tryz.f107 (bodyOf Tryz.f107) ((a0, (a1, (a2, (a3, (a4, a5))))), ()) = (f K a0 a1).bind fun r => some (cv ((a0, (a1, (a2, (a3, (a4, a5))))), ()) r) := by
  unfold f
  try simp only [el]
  kernel_rfl
theorem rets (K : Nat) : ∀ x y, withCv (F K) cv x = some y → Rets M 107 sig x y := fun x y h => runF_rets (L := 20) (C_ok K) (eqBy_ok _) (by kernel_rfl) RF_ok (CP_ok K) (show LoopsOk M 0 (LP K) (loopsOf (bodyOf Tryz.f107)) from (show loopsOf (bodyOf Tryz.f107) = [] by kernel_rfl) ▸ noLoops_ok) (Nat.le_of_ble_eq_true rfl) Tryz.func107 (by kernel_rfl) ((eq K x.1.1 x.1.2.1 x.1.2.2.1 x.1.2.2.2.1 x.1.2.2.2.2.1 x.1.2.2.2.2.2).trans h)
end ir_Sets
namespace vm_ready
/-! ### vm_ready: function 54 -/
noncomputable def sig : Sig := ⟨(.agg (.cons (.own 0) (.cons (.ty (.slice yFunc)) (.ty (.slice yImport))))), [.list 2 yI []], (.ty (.ptr yprogram)), [.list 2 yI []]⟩
noncomputable def RF : RefitBy := (rfPut 1 95 21 ⟨[3, 4, 7, 10, 20, 21, 22, 41, 42, 43], (.cons (.ptr 1 0) (.cons (.ty yI) (.cons (.own 2) (.cons (.ptr 3 0) (.cons (.ty (.slice yFunc)) (.cons (.ty yI) (.cons (.ty yI) (.cons (.ty (.slice yBlock)) (.cons (.ty yI) (.ty yI)))))))))), [.list 2 yI [], .cells 140 0 (.cons (.ty (.slice yFunc)) (.cons (.own 4) (.own 5))), .list 136 ysited [], .cells 136 0 (.cons (.ty (.slice yInsn)) (.cons (.ty (.slice yI)) (.cons (.ty yI) (.cons (.ty yI) (.cons (.ty yI) (.ty yI)))))), .list 137 (.slice ysited) [], .list 3 yI []]⟩ (rfPut 1 95 23 ⟨[3, 4, 7, 20, 21, 22], (.cons (.ptr 1 0) (.cons (.ty yI) (.cons (.ty (.slice ysited)) (.cons (.ty (.slice yFunc)) (.cons (.ty yI) (.ty yI)))))), [.list 2 yI [], .cells 140 0 (.cons (.ty (.slice yFunc)) (.cons (.own 2) (.own 3))), .list 137 (.slice ysited) [], .list 3 yI []]⟩ noRefit))
theorem RF_ok : RefitOk M 1 RF := rfPut_ok (Nat.le_of_ble_eq_true rfl) (rfPut_ok (Nat.le_of_ble_eq_true rfl) (noRefit_ok))
noncomputable def C {α : Type} (K : Nat) : CallsBy α := (entryD 107 ir_Sets.sig (ir_Sets.F K) ir_Sets.cv noCalls)
theorem C_ok {α : Type} (K : Nat) : CallsOk (α := α) M (C K) := (entryD_ok noCalls_ok (by rfl) Tryz.func107 (by kernel_rfl) rfl (ir_Sets.rets K))
noncomputable def CP {α : Type} (K : Nat) : CutBy α := noCuts
theorem CP_ok {α : Type} (K : Nat)  : CutsOk (α := α) M 1 (CP K) := noCuts_ok
noncomputable def l2.h : SSh := ⟨[3, 4, 7, 10, 20, 21, 22, 41, 42, 43, 57, 58, 59], (.cons (.ptr 1 0) (.cons (.ty yI) (.cons (.own 2) (.cons (.ptr 3 0) (.cons (.ty (.slice yFunc)) (.cons (.ty yI) (.cons (.ty yI) (.cons (.ty (.slice yBlock)) (.cons (.ty yI) (.cons (.ty yI) (.cons (.ty (.slice yInsn)) (.cons (.ty yI) (.ty yI))))))))))))), [.list 2 yI [], .cells 140 0 (.cons (.ty (.slice yFunc)) (.cons (.own 4) (.own 5))), .list 136 ysited [], .cells 136 0 (.cons (.ty (.slice yInsn)) (.cons (.own 6) (.cons (.ty yI) (.cons (.ty yI) (.cons (.ty yI) (.ty yI)))))), .list 137 (.slice ysited) [], .list 3 yI [], .list 3 yI []]⟩
noncomputable def l2.x : SSh := ⟨[3, 4, 7, 10, 20, 21, 22, 41, 42, 43], (.cons (.ptr 1 0) (.cons (.ty yI) (.cons (.own 2) (.cons (.ptr 3 0) (.cons (.ty (.slice yFunc)) (.cons (.ty yI) (.cons (.ty yI) (.cons (.ty (.slice yBlock)) (.cons (.ty yI) (.ty yI)))))))))), [.list 2 yI [], .cells 140 0 (.cons (.ty (.slice yFunc)) (.cons (.own 4) (.own 5))), .list 136 ysited [], .cells 136 0 (.cons (.ty (.slice yInsn)) (.cons (.own 6) (.cons (.ty yI) (.cons (.ty yI) (.cons (.ty yI) (.ty yI)))))), .list 137 (.slice ysited) [], .list 3 yI [], .list 3 yI []]⟩
noncomputable def l2.cx : l2.h.I → (Int × List Int) → l2.x.I := fun x r => (((), (r.1, ((), ((), (x.1.2.2.2.2.1, (x.1.2.2.2.2.2.1, (x.1.2.2.2.2.2.2.1, (x.1.2.2.2.2.2.2.2.1, (x.1.2.2.2.2.2.2.2.2.1, x.1.2.2.2.2.2.2.2.2.2.1))))))))), (x.2.1, ((x.2.2.1.1, ((), ())), (x.2.2.2.1, ((x.2.2.2.2.1.1, ((), (x.2.2.2.2.1.2.2.1, (x.2.2.2.2.1.2.2.2.1, (x.2.2.2.2.1.2.2.2.2.1, x.2.2.2.2.1.2.2.2.2.2))))), (x.2.2.2.2.2.1, (x.2.2.2.2.2.2.1, (r.2, ()))))))))
noncomputable def l2.f (K : Nat) : Nat → Int → List LInsn → Int → Int → List Int → Option (Int × List Int)
  | 0, _, _, _, _, _ => none
  | k + 1, a0, a7, a8, a9, a20 => bif decide (a9 < a8) then bif decide ((0 : Int) ≤ a9) && true then a7[a9.toNat]?.bind fun t => (ir_Sets.f K t.1 t.2.1).bind fun t => bif t.2 then bif decide ((0 : Int) ≤ a9) then bif a9.toNat.blt a20.length then a20[a9.toNat]?.bind fun t => l2.f K k (IntKind.i64.wrap (a0 + (1 : Int))) a7 a8 (IntKind.i64.wrap (a9 + (1 : Int))) (a20.set a9.toNat a0) else none else none else l2.f K k a0 a7 a8 (IntKind.i64.wrap (a9 + (1 : Int))) a20 else none else some (a0, a20)
noncomputable def l2.F (K : Nat) (k : Nat) : l2.h.I → Option (Int × List Int) := fun x => l2.f K k x.1.2.1 x.1.2.2.2.2.2.2.2.2.2.2.1 x.1.2.2.2.2.2.2.2.2.2.2.2.1 x.1.2.2.2.2.2.2.2.2.2.2.2.2 x.2.2.2.2.2.2.2.1
noncomputable def l2.lp {α : Type} (K : Nat) : St → Kn α → Option α := lpX 1 95 4 l2.h l2.x (l2.F K K) l2.cx
noncomputable def l2.c : Code := nthLoop Tryz.f54 2
noncomputable def l2.LP {α : Type} (K : Nat) : LoopsBy α := noLoops
theorem l2.eq (K : Nat) (k : Nat) (a0 : Int) (a1 : List LFunc) (a2 : Int) (a3 : Int) (a4 : List LBlock) (a5 : Int) (a6 : Int) (a7 : List LInsn) (a8 : Int) (a9 : Int) (a10 : List Int) (a11 : List LFunc) (a12 : List Lsited) (a13 : List LInsn) (a14 : Int) (a15 : Int) (a16 : Int) (a17 : Int) (a18 : List (List Lsited)) (a19 : List Int) (a20 : List Int) : exec M (C K) (eqBy M.P) (l2.LP K) RF (CP K) 20 l2.c (Kl 1 l2.h (withCv (l2.F K k) l2.cx) (backX 1 95 4 l2.x)) (l2.h.enc 95 (((), (a0, ((), ((), (a1, (a2, (a3, (a4, (a5, (a6, (a7, (a8, a9)))))))))))), (a10, ((a11, ((), ())), (a12, ((a13, ((), (a14, (a15, (a16, a17))))), (a18, (a19, (a20, ()))))))))) = (l2.f K (k + 1) a0 a7 a8 a9 a20).bind fun r => some (l2.cx (((), (a0, ((), ((), (a1, (a2, (a3, (a4, (a5, (a6, (a7, (a8, a9)))))))))))), (a10, ((a11, ((), ())), (a12, ((a13, ((), (a14, (a15, (a16, a17))))), (a18, (a19, (a20, ())))))))) r) := by
  rw [l2.f]
  try simp only [el]
  kernel_rfl
theorem l2.leads (K : Nat) : ∀ k x y, withCv (l2.F K k) l2.cx x = some y → Leads M 1 (.loop l2.c) (l2.h.enc 95 x) (outX 95 4 l2.x y).1 (outX 95 4 l2.x y).2 :=
  loopX_sound (C_ok K) (eqBy_ok _) (by kernel_rfl) RF_ok (CP_ok K) (show LoopsOk M 1 (l2.LP K) (loopsOf l2.c) from (show loopsOf l2.c = [] by kernel_rfl) ▸ (noLoops_ok)) (Nat.le_of_ble_eq_true rfl) (Nat.le_of_ble_eq_true rfl) (fun x => rfl) (fun k x => l2.eq K k x.1.2.1 x.1.2.2.2.2.1 x.1.2.2.2.2.2.1 x.1.2.2.2.2.2.2.1 x.1.2.2.2.2.2.2.2.1 x.1.2.2.2.2.2.2.2.2.1 x.1.2.2.2.2.2.2.2.2.2.1 x.1.2.2.2.2.2.2.2.2.2.2.1 x.1.2.2.2.2.2.2.2.2.2.2.2.1 x.1.2.2.2.2.2.2.2.2.2.2.2.2 x.2.1 x.2.2.1.1 x.2.2.2.1 x.2.2.2.2.1.1 x.2.2.2.2.1.2.2.1 x.2.2.2.2.1.2.2.2.1 x.2.2.2.2.1.2.2.2.2.1 x.2.2.2.2.1.2.2.2.2.2 x.2.2.2.2.2.1 x.2.2.2.2.2.2.1 x.2.2.2.2.2.2.2.1)
theorem l2.lp_ok {α : Type} (K : Nat) : LoopOk (α := α) M 1 (nthLoop Tryz.f54 2) (l2.lp K) := lpX_ok (Nat.le_of_ble_eq_true rfl) (l2.leads K K)
noncomputable def l1.h : SSh := ⟨[3, 4, 7, 20, 21, 22, 41, 42, 43], (.cons (.ptr 1 0) (.cons (.ty yI) (.cons (.own 2) (.cons (.ty (.slice yFunc)) (.cons (.ty yI) (.cons (.ty yI) (.cons (.ty (.slice yBlock)) (.cons (.ty yI) (.ty yI))))))))), [.list 2 yI [], .cells 140 0 (.cons (.ty (.slice yFunc)) (.cons (.own 3) (.own 4))), .list 136 ysited [], .list 137 (.slice ysited) [], .list 3 yI []]⟩
noncomputable def l1.x : SSh := ⟨[3, 4, 7, 20, 21, 22], (.cons (.ptr 1 0) (.cons (.ty yI) (.cons (.own 2) (.cons (.ty (.slice yFunc)) (.cons (.ty yI) (.ty yI)))))), [.list 2 yI [], .cells 140 0 (.cons (.ty (.slice yFunc)) (.cons (.own 3) (.own 4))), .list 136 ysited [], .list 137 (.slice ysited) [], .list 3 yI []]⟩
noncomputable def l1.cx : l1.h.I → (Int × List Lsited) → l1.x.I := fun x r => (((), (r.1, ((), (x.1.2.2.2.1, (x.1.2.2.2.2.1, x.1.2.2.2.2.2.1))))), (x.2.1, ((x.2.2.1.1, ((), ())), (r.2, (x.2.2.2.2.1, (x.2.2.2.2.2.1, ()))))))
noncomputable def l1.f (K : Nat) : Nat → Int → List LBlock → Int → Int → List Lsited → Option (Int × List Lsited)
  | 0, _, _, _, _, _ => none
  | k + 1, a0, a4, a5, a6, a9 => bif decide (a6 < a5) then bif decide ((0 : Int) ≤ a6) && true then a4[a6.toNat]?.bind fun t => bif decide ((↑(List.length t.1) : Int) ≤ (100000 : Int)) && (↑(List.length t.1) : Int) == (↑(List.length t.1) : Int) && true && true && true then (l2.f K K a0 t.1 (↑(List.length t.1) : Int) (0 : Int) (List.replicate (↑(List.length t.1) : Int).toNat (0 : Int))).bind fun t_1 => bif (a9.length + [(t.1, t_1.2, t.2.1, t.2.2.1, t.2.2.2.1, t.2.2.2.2)].length).ble (100000 : Nat) then l1.f K k t_1.1 a4 a5 (IntKind.i64.wrap (a6 + (1 : Int))) (a9 ++ [(t.1, t_1.2, t.2.1, t.2.2.1, t.2.2.2.1, t.2.2.2.2)]) else none else none else none else some (a0, a9)
noncomputable def l1.F (K : Nat) (k : Nat) : l1.h.I → Option (Int × List Lsited) := fun x => l1.f K k x.1.2.1 x.1.2.2.2.2.2.2.1 x.1.2.2.2.2.2.2.2.1 x.1.2.2.2.2.2.2.2.2 x.2.2.2.1
noncomputable def l1.lp {α : Type} (K : Nat) : St → Kn α → Option α := lpX 1 95 2 l1.h l1.x (l1.F K K) l1.cx
noncomputable def l1.c : Code := nthLoop Tryz.f54 1
noncomputable def l1.LP {α : Type} (K : Nat) : LoopsBy α := (lpPut 14 (l2.lp K) noLoops)
theorem l1.eq (K : Nat) (k : Nat) (a0 : Int) (a1 : List LFunc) (a2 : Int) (a3 : Int) (a4 : List LBlock) (a5 : Int) (a6 : Int) (a7 : List Int) (a8 : List LFunc) (a9 : List Lsited) (a10 : List (List Lsited)) (a11 : List Int) : exec M (C K) (eqBy M.P) (l1.LP K) RF (CP K) 20 l1.c (Kl 1 l1.h (withCv (l1.F K k) l1.cx) (backX 1 95 2 l1.x)) (l1.h.enc 95 (((), (a0, ((), (a1, (a2, (a3, (a4, (a5, a6)))))))), (a7, ((a8, ((), ())), (a9, (a10, (a11, ()))))))) = (l1.f K (k + 1) a0 a4 a5 a6 a9).bind fun r => some (l1.cx (((), (a0, ((), (a1, (a2, (a3, (a4, (a5, a6)))))))), (a7, ((a8, ((), ())), (a9, (a10, (a11, ())))))) r) := by
  rw [l1.f]
  try simp only [el]
  kernel_rfl
theorem l1.leads (K : Nat) : ∀ k x y, withCv (l1.F K k) l1.cx x = some y → Leads M 1 (.loop l1.c) (l1.h.enc 95 x) (outX 95 2 l1.x y).1 (outX 95 2 l1.x y).2 :=
  loopX_sound (C_ok K) (eqBy_ok _) (by kernel_rfl) RF_ok (CP_ok K) (show LoopsOk M 1 (l1.LP K) (loopsOf l1.c) from (show loopsOf l1.c = [nthLoop Tryz.f54 2] by kernel_rfl) ▸ ((loopsOk_put (key := 14) (by kernel_rfl) (l2.lp_ok K) noLoops_ok (by kernel_rfl)))) (Nat.le_of_ble_eq_true rfl) (Nat.le_of_ble_eq_true rfl) (fun x => rfl) (fun k x => l1.eq K k x.1.2.1 x.1.2.2.2.1 x.1.2.2.2.2.1 x.1.2.2.2.2.2.1 x.1.2.2.2.2.2.2.1 x.1.2.2.2.2.2.2.2.1 x.1.2.2.2.2.2.2.2.2 x.2.1 x.2.2.1.1 x.2.2.2.1 x.2.2.2.2.1 x.2.2.2.2.2.1)
theorem l1.lp_ok {α : Type} (K : Nat) : LoopOk (α := α) M 1 (nthLoop Tryz.f54 1) (l1.lp K) := lpX_ok (Nat.le_of_ble_eq_true rfl) (l1.leads K K)
noncomputable def l0.h : SSh := ⟨[3, 4, 20, 21, 22], (.cons (.ptr 1 0) (.cons (.ty yI) (.cons (.ty (.slice yFunc)) (.cons (.ty yI) (.ty yI))))), [.list 2 yI [], .cells 140 0 (.cons (.ty (.slice yFunc)) (.cons (.own 2) (.own 3))), .list 137 (.slice ysited) [], .list 3 yI []]⟩
noncomputable def l0.x : SSh := ⟨[3], (.ptr 1 0), [.list 2 yI [], .cells 140 0 (.cons (.ty (.slice yFunc)) (.cons (.own 2) (.own 3))), .list 137 (.slice ysited) [], .list 3 yI []]⟩
noncomputable def l0.cx : l0.h.I → (List (List Lsited) × List Int) → l0.x.I := fun x r => ((), (x.2.1, ((x.2.2.1.1, ((), ())), (r.1, (r.2, ())))))
noncomputable def l0.f (K : Nat) : Nat → Int → List LFunc → Int → Int → List (List Lsited) → List Int → Option (List (List Lsited) × List Int)
  | 0, _, _, _, _, _, _ => none
  | k + 1, a0, a1, a2, a3, a6, a7 => bif decide (a3 < a2) then bif decide ((0 : Int) ≤ a3) && true then a1[a3.toNat]?.bind fun t => bif (a7.length + [a0].length).ble (100000 : Nat) then (l1.f K K (IntKind.i64.wrap (a0 + t.2.2.1)) t.2.2.2 (↑(List.length t.2.2.2) : Int) (0 : Int) []).bind fun t => bif (a6.length + [t.2].length).ble (100000 : Nat) then l0.f K k t.1 a1 a2 (IntKind.i64.wrap (a3 + (1 : Int))) (a6 ++ [t.2]) (a7 ++ [a0]) else none else none else none else some (a6, a7)
noncomputable def l0.F (K : Nat) (k : Nat) : l0.h.I → Option (List (List Lsited) × List Int) := fun x => l0.f K k x.1.2.1 x.1.2.2.1 x.1.2.2.2.1 x.1.2.2.2.2 x.2.2.2.1 x.2.2.2.2.1
noncomputable def l0.lp {α : Type} (K : Nat) : St → Kn α → Option α := lpX 1 95 0 l0.h l0.x (l0.F K K) l0.cx
noncomputable def l0.c : Code := nthLoop Tryz.f54 0
noncomputable def l0.LP {α : Type} (K : Nat) : LoopsBy α := (lpPut 10 (l1.lp K) (lpPut 14 (l2.lp K) noLoops))
theorem l0.eq (K : Nat) (k : Nat) (a0 : Int) (a1 : List LFunc) (a2 : Int) (a3 : Int) (a4 : List Int) (a5 : List LFunc) (a6 : List (List Lsited)) (a7 : List Int) : exec M (C K) (eqBy M.P) (l0.LP K) RF (CP K) 20 l0.c (Kl 1 l0.h (withCv (l0.F K k) l0.cx) (backX 1 95 0 l0.x)) (l0.h.enc 95 (((), (a0, (a1, (a2, a3)))), (a4, ((a5, ((), ())), (a6, (a7, ())))))) = (l0.f K (k + 1) a0 a1 a2 a3 a6 a7).bind fun r => some (l0.cx (((), (a0, (a1, (a2, a3)))), (a4, ((a5, ((), ())), (a6, (a7, ()))))) r) := by
  rw [l0.f]
  try simp only [el]
  kernel_rfl
theorem l0.leads (K : Nat) : ∀ k x y, withCv (l0.F K k) l0.cx x = some y → Leads M 1 (.loop l0.c) (l0.h.enc 95 x) (outX 95 0 l0.x y).1 (outX 95 0 l0.x y).2 :=
  loopX_sound (C_ok K) (eqBy_ok _) (by kernel_rfl) RF_ok (CP_ok K) (show LoopsOk M 1 (l0.LP K) (loopsOf l0.c) from (show loopsOf l0.c = [nthLoop Tryz.f54 1, nthLoop Tryz.f54 2] by kernel_rfl) ▸ ((loopsOk_put (key := 10) (by kernel_rfl) (l1.lp_ok K) (loopsOk_put (key := 14) (by kernel_rfl) (l2.lp_ok K) noLoops_ok (by kernel_rfl)) (by kernel_rfl)))) (Nat.le_of_ble_eq_true rfl) (Nat.le_of_ble_eq_true rfl) (fun x => rfl) (fun k x => l0.eq K k x.1.2.1 x.1.2.2.1 x.1.2.2.2.1 x.1.2.2.2.2 x.2.1 x.2.2.1.1 x.2.2.2.1 x.2.2.2.2.1)
theorem l0.lp_ok {α : Type} (K : Nat) : LoopOk (α := α) M 1 (nthLoop Tryz.f54 0) (l0.lp K) := lpX_ok (Nat.le_of_ble_eq_true rfl) (l0.leads K K)
noncomputable def f (K : Nat) (a0 : List LFunc) : Option (Option Lprogram) := (l0.f K K (0 : Int) a0 (↑a0.length : Int) (0 : Int) [] []).bind fun t => some (some (a0, t.1, t.2))
noncomputable def F (K : Nat) : sig.In → Option (Option Lprogram) := fun x => f K x.1.2.1
noncomputable def cv : sig.In → (Option Lprogram) → sig.Ou := fun x r => (r, (x.2.1, ()))
noncomputable def LP {α : Type} (K : Nat) : LoopsBy α := (lpPut 4 (l0.lp K) (lpPut 10 (l1.lp K) (lpPut 14 (l2.lp K) noLoops)))
theorem eq (K : Nat) (a0 : List LFunc) (a1 : List LImport) (a2 : List Int) : runF M sig (C K) (eqBy M.P) (LP K) RF (CP K) 20 Tryz.f54 (bodyOf Tryz.f54) (((), (a0, a1)), (a2, ())) = (f K a0).bind fun r => some (cv (((), (a0, a1)), (a2, ())) r) := by
  unfold f
  try simp only [el]
  kernel_rfl
theorem rets (K : Nat) : ∀ x y, withCv (F K) cv x = some y → Rets M 54 sig x y := fun x y h => runF_rets (L := 20) (C_ok K) (eqBy_ok _) (by kernel_rfl) RF_ok (CP_ok K) (show LoopsOk M 1 (LP K) (loopsOf (bodyOf Tryz.f54)) from (show loopsOf (bodyOf Tryz.f54) = [nthLoop Tryz.f54 0, nthLoop Tryz.f54 1, nthLoop Tryz.f54 2] by kernel_rfl) ▸ (loopsOk_put (key := 4) (by kernel_rfl) (l0.lp_ok K) (loopsOk_put (key := 10) (by kernel_rfl) (l1.lp_ok K) (loopsOk_put (key := 14) (by kernel_rfl) (l2.lp_ok K) noLoops_ok (by kernel_rfl)) (by kernel_rfl)) (by kernel_rfl))) (Nat.le_of_ble_eq_true rfl) Tryz.func54 (by kernel_rfl) ((eq K x.1.2.1 x.1.2.2 x.2.1).trans h)
end vm_ready
namespace vm_program_frame
/-! ### vm_program_frame: function 55 -/
noncomputable def sig : Sig := ⟨(.cons (.ty (.ptr yprogram)) (.cons (.ty yI) (.ty (.slice yI)))), [], (.agg (.cons (.ty yI) (.cons (.ty yI) (.cons (.ty yI) (.cons (.own 0) (.own 1)))))), [.list 2 yI [], .list 3 yI []]⟩
noncomputable def RF : RefitBy := noRefit
theorem RF_ok : RefitOk M 0 RF := noRefit_ok
noncomputable def C {α : Type} (K : Nat) : CallsBy α := noCalls
theorem C_ok {α : Type} (K : Nat) : CallsOk (α := α) M (C K) := noCalls_ok
noncomputable def CP {α : Type} (K : Nat) : CutBy α := noCuts
theorem CP_ok {α : Type} (K : Nat)  : CutsOk (α := α) M 0 (CP K) := noCuts_ok
noncomputable def l0.h : SSh := ⟨[0, 1, 6, 7, 26, 27], (.cons (.ty (.ptr yprogram)) (.cons (.ty yI) (.cons (.ptr 0 0) (.cons (.ptr 1 0) (.cons (.ty yI) (.ty yI)))))), [.cells 86 0 (.cons (.ty yI) (.cons (.ty yI) (.cons (.ty yI) (.cons (.own 2) (.own 3))))), .cells 86 0 (.cons (.ty yI) (.cons (.ty yI) (.cons (.ty yI) (.cons (.own 4) (.own 5))))), .list 2 yI [], .list 3 yI [], .list 2 yI [], .list 3 yI []]⟩
noncomputable def l0.x : SSh := ⟨[6, 7], (.cons (.ptr 0 0) (.ptr 1 0)), [.cells 86 0 (.cons (.ty yI) (.cons (.ty yI) (.cons (.ty yI) (.cons (.own 2) (.own 3))))), .cells 86 0 (.cons (.ty yI) (.cons (.ty yI) (.cons (.ty yI) (.cons (.own 4) (.own 5))))), .list 2 yI [], .list 3 yI [], .list 2 yI [], .list 3 yI []]⟩
noncomputable def l0.cx : l0.h.I → (List Int) → l0.x.I := fun x r => (((), ()), ((x.2.1.1, (x.2.1.2.1, (x.2.1.2.2.1, ((), ())))), ((x.2.2.1.1, (x.2.2.1.2.1, (x.2.2.1.2.2.1, ((), ())))), (x.2.2.2.1, (x.2.2.2.2.1, (x.2.2.2.2.2.1, (r, ())))))))
noncomputable def l0.f (K : Nat) : Nat → Option Lprogram → Int → Int → Int → List Int → Option (List Int)
  | 0, _, _, _, _, _ => none
  | k + 1, a0, a1, a2, a3, a13 => bif decide (a3 < a2) then a0.bind fun t => bif decide ((0 : Int) ≤ a1) && true then t.2.2[a1.toNat]?.bind fun t => bif (a13.length + [IntKind.i64.wrap (t + a3)].length).ble (100000 : Nat) then l0.f K k a0 a1 a2 (IntKind.i64.wrap (a3 + (1 : Int))) (a13 ++ [IntKind.i64.wrap (t + a3)]) else none else none else some a13
noncomputable def l0.F (K : Nat) (k : Nat) : l0.h.I → Option (List Int) := fun x => l0.f K k x.1.1 x.1.2.1 x.1.2.2.2.2.1 x.1.2.2.2.2.2 x.2.2.2.2.2.2.1
noncomputable def l0.lp {α : Type} (K : Nat) : St → Kn α → Option α := lpX 0 46 0 l0.h l0.x (l0.F K K) l0.cx
noncomputable def l0.c : Code := nthLoop Tryz.f55 0
noncomputable def l0.LP {α : Type} (K : Nat) : LoopsBy α := noLoops
theorem l0.eq (K : Nat) (k : Nat) (a0 : Option Lprogram) (a1 : Int) (a2 : Int) (a3 : Int) (a4 : Int) (a5 : Int) (a6 : Int) (a7 : Int) (a8 : Int) (a9 : Int) (a10 : List Int) (a11 : List Int) (a12 : List Int) (a13 : List Int) : exec M (C K) (eqBy M.P) (l0.LP K) RF (CP K) 20 l0.c (Kl 0 l0.h (withCv (l0.F K k) l0.cx) (backX 0 46 0 l0.x)) (l0.h.enc 46 ((a0, (a1, ((), ((), (a2, a3))))), ((a4, (a5, (a6, ((), ())))), ((a7, (a8, (a9, ((), ())))), (a10, (a11, (a12, (a13, ())))))))) = (l0.f K (k + 1) a0 a1 a2 a3 a13).bind fun r => some (l0.cx ((a0, (a1, ((), ((), (a2, a3))))), ((a4, (a5, (a6, ((), ())))), ((a7, (a8, (a9, ((), ())))), (a10, (a11, (a12, (a13, ()))))))) r) := by
  rw [l0.f]
  try simp only [el]
  kernel_rfl
theorem l0.leads (K : Nat) : ∀ k x y, withCv (l0.F K k) l0.cx x = some y → Leads M 0 (.loop l0.c) (l0.h.enc 46 x) (outX 46 0 l0.x y).1 (outX 46 0 l0.x y).2 :=
  loopX_sound (C_ok K) (eqBy_ok _) (by kernel_rfl) RF_ok (CP_ok K) (show LoopsOk M 0 (l0.LP K) (loopsOf l0.c) from (show loopsOf l0.c = [] by kernel_rfl) ▸ (noLoops_ok)) (Nat.le_of_ble_eq_true rfl) (Nat.le_of_ble_eq_true rfl) (fun x => rfl) (fun k x => l0.eq K k x.1.1 x.1.2.1 x.1.2.2.2.2.1 x.1.2.2.2.2.2 x.2.1.1 x.2.1.2.1 x.2.1.2.2.1 x.2.2.1.1 x.2.2.1.2.1 x.2.2.1.2.2.1 x.2.2.2.1 x.2.2.2.2.1 x.2.2.2.2.2.1 x.2.2.2.2.2.2.1)
theorem l0.lp_ok {α : Type} (K : Nat) : LoopOk (α := α) M 0 (nthLoop Tryz.f55 0) (l0.lp K) := lpX_ok (Nat.le_of_ble_eq_true rfl) (l0.leads K K)
noncomputable def f (K : Nat) (a0 : Option Lprogram) (a1 : Int) (a2 : List Int) : Option (Int × Int × List Int × List Int) := a0.bind fun t => bif decide ((0 : Int) ≤ a1) && true then t.1[a1.toNat]?.bind fun t => bif decide ((0 : Int) ≤ t.2.2.1) && decide (t.2.2.1 ≤ (100000 : Int)) && t.2.2.1 == t.2.2.1 && true && true && true then (l0.f K K a0 a1 (↑(List.take (List.replicate (Int.toNat t.2.2.1) (0 : Int)).length a2 ++ List.drop a2.length (List.replicate (Int.toNat t.2.2.1) (0 : Int))).length : Int) (0 : Int) []).bind fun t_1 => some ((0 : Int), (0 : Int), List.take (List.replicate (Int.toNat t.2.2.1) (0 : Int)).length a2 ++ List.drop a2.length (List.replicate (Int.toNat t.2.2.1) (0 : Int)), t_1) else none else none
noncomputable def F (K : Nat) : sig.In → Option (Int × Int × List Int × List Int) := fun x => f K x.1.1 x.1.2.1 x.1.2.2
noncomputable def cv : sig.In → (Int × Int × List Int × List Int) → sig.Ou := fun x r => ((x.1.2.1, (r.1, (r.2.1, ((), ())))), (r.2.2.1, (r.2.2.2, ())))
noncomputable def LP {α : Type} (K : Nat) : LoopsBy α := (lpPut 4 (l0.lp K) noLoops)
theorem eq (K : Nat) (a0 : Option Lprogram) (a1 : Int) (a2 : List Int) : runF M sig (C K) (eqBy M.P) (LP K) RF (CP K) 20 Tryz.f55 (bodyOf Tryz.f55) ((a0, (a1, a2)), ()) = (f K a0 a1 a2).bind fun r => some (cv ((a0, (a1, a2)), ()) r) := by
  unfold f
  try simp only [el]
  kernel_rfl
theorem rets (K : Nat) : ∀ x y, withCv (F K) cv x = some y → Rets M 55 sig x y := fun x y h => runF_rets (L := 20) (C_ok K) (eqBy_ok _) (by kernel_rfl) RF_ok (CP_ok K) (show LoopsOk M 0 (LP K) (loopsOf (bodyOf Tryz.f55)) from (show loopsOf (bodyOf Tryz.f55) = [nthLoop Tryz.f55 0] by kernel_rfl) ▸ (loopsOk_put (key := 4) (by kernel_rfl) (l0.lp_ok K) noLoops_ok (by kernel_rfl))) (Nat.le_of_ble_eq_true rfl) Tryz.func55 (by kernel_rfl) ((eq K x.1.1 x.1.2.1 x.1.2.2).trans h)
end vm_program_frame
namespace vm_Start
/-! ### vm_Start: function 13 -/
noncomputable def sig : Sig := ⟨(.cons (.agg (.cons (.ty (.slice yI)) (.cons (.ty (.slice yFunc)) (.ty (.slice yImport))))) (.cons (.ty yI) (.cons (.ty (.slice yI)) (.ty (.slice yI))))), [], (.cons (.ptr 0 0) (.ty .err)), [.cells 132 0 (.cons (.ty (.ptr yprogram)) (.cons (.own 1) (.cons (.ty (.slice yI)) (.cons (.own 2) (.cons (.own 3) (.cons (.ty yI) (.ty yI))))))), .list 2 yI [], .list 2 yI [], .list 86 (.pair yI (.pair yI (.pair yI (.pair (.own 0) (.own 1))))) [4, 5], .many 2 yI, .many 3 yI]⟩
noncomputable def RF : RefitBy := (rfPut 0 62 10 ⟨[1, 2, 3, 4], (.cons (.ty yI) (.cons (.ty (.slice yI)) (.cons (.ty (.slice yI)) (.ptr 0 0)))), [.cells 35 0 (.cons (.ty (.slice yI)) (.cons (.ty (.slice yFunc)) (.ty (.slice yImport)))), .void 2 yI, .void 3 yI]⟩ noRefit)
theorem RF_ok : RefitOk M 0 RF := rfPut_ok (Nat.le_of_ble_eq_true rfl) (noRefit_ok)
noncomputable def C {α : Type} (K : Nat) : CallsBy α := (adoptC 55 [(0, 1), (1, 2)] (entryD 38 ir_Check.sig (ir_Check.F K) ir_Check.cv (entryD 11 ir_Copy_own.sig (ir_Copy_own.F K) ir_Copy_own.cv (entryD 54 vm_ready.sig (vm_ready.F K) vm_ready.cv (entryD 48 slices_Clone_int64_int64.sig (slices_Clone_int64_int64.F K) slices_Clone_int64_int64.cv (entryD 55 vm_program_frame.sig (vm_program_frame.F K) vm_program_frame.cv noCalls))))))
theorem C_ok {α : Type} (K : Nat) : CallsOk (α := α) M (C K) := (adoptC_ok (entryD_ok (entryD_ok (entryD_ok (entryD_ok (entryD_ok noCalls_ok (by rfl) Tryz.func55 (by kernel_rfl) rfl (vm_program_frame.rets K)) (by rfl) Tryz.func48 (by kernel_rfl) rfl (slices_Clone_int64_int64.rets K)) (by rfl) Tryz.func54 (by kernel_rfl) rfl (vm_ready.rets K)) (by rfl) Tryz.func11 (by kernel_rfl) rfl (ir_Copy_own.rets K)) (by rfl) Tryz.func38 (by kernel_rfl) rfl (ir_Check.rets K)))
noncomputable def CP {α : Type} (K : Nat) : CutBy α := (cpPut 6 (rpCut M bindC [.bool] [24] (C K) (eqBy M.P)) noCuts)
theorem CP_ok {α : Type} (K : Nat)  : CutsOk (α := α) M 0 (CP K) := (cpPut_ok (rpCut_ok (C_ok K) (eqBy_ok _) (by kernel_rfl)) noCuts_ok)
noncomputable def f (K : Nat) (a0 : List Int) (a1 : List LFunc) (a2 : List LImport) (a3 : Int) (a4 : List Int) (a5 : List Int) : Option (Err × Option Lprogram × List Int × Int × Int × List Int × List Int × (List (Int × Int × Int × Nat × Nat)) × List (List Int) × List (List Int)) := (ir_Check.f K a0 a1 a2).bind fun t => bif bif true then !t.isNil else t.isNil then none else bif decide ((↑a2.length : Int) > (0 : Int)) then none else bindC (bif decide (a3 < (0 : Int)) then some true else some (decide (a3 ≥ (↑a1.length : Int)))) fun t => bif t then none else bif decide ((0 : Int) ≤ a3) && true then a1[a3.toNat]?.bind fun t => bif (↑a4.length : Int) != t.2.1 then none else (ir_Copy_own.f K a0 a1 a2).bind fun t => (vm_ready.f K t.2.1).bind fun t_1 => (slices_Clone_int64_int64.f K a5).bind fun t_2 => (vm_program_frame.f K t_1 a3 a4).bind fun t_3 => some (Err.nil, t_1, t_2, (0 : Int), (0 : Int), t.1, [], [(a3, t_3.1, t_3.2.1, (0 : Nat), (0 : Nat))], [] ++ [t_3.2.2.1], [] ++ [t_3.2.2.2]) else none
noncomputable def F (K : Nat) : sig.In → Option (Err × Option Lprogram × List Int × Int × Int × List Int × List Int × (List (Int × Int × Int × Nat × Nat)) × List (List Int) × List (List Int)) := fun x => f K x.1.1.1 x.1.1.2.1 x.1.1.2.2 x.1.2.1 x.1.2.2.1 x.1.2.2.2
noncomputable def cv : sig.In → (Err × Option Lprogram × List Int × Int × Int × List Int × List Int × (List (Int × Int × Int × Nat × Nat)) × List (List Int) × List (List Int)) → sig.Ou := fun x r => (((), r.1), ((r.2.1, ((), (r.2.2.1, ((), ((), (r.2.2.2.1, r.2.2.2.2.1)))))), (r.2.2.2.2.2.1, (r.2.2.2.2.2.2.1, (r.2.2.2.2.2.2.2.1, (r.2.2.2.2.2.2.2.2.1, (r.2.2.2.2.2.2.2.2.2, ())))))))
noncomputable def LP {α : Type} (K : Nat) : LoopsBy α := noLoops
theorem eq (K : Nat) (a0 : List Int) (a1 : List LFunc) (a2 : List LImport) (a3 : Int) (a4 : List Int) (a5 : List Int) : runF M sig (C K) (eqBy M.P) (LP K) RF (CP K) 20 Tryz.f13 (bodyOf Tryz.f13) (((a0, (a1, a2)), (a3, (a4, a5))), ()) = (f K a0 a1 a2 a3 a4 a5).bind fun r => some (cv (((a0, (a1, a2)), (a3, (a4, a5))), ()) r) := by
  unfold f
  try simp only [el]
  kernel_rfl
theorem rets (K : Nat) : ∀ x y, withCv (F K) cv x = some y → Rets M 13 sig x y := fun x y h => runF_rets (L := 20) (C_ok K) (eqBy_ok _) (by kernel_rfl) RF_ok (CP_ok K) (show LoopsOk M 0 (LP K) (loopsOf (bodyOf Tryz.f13)) from (show loopsOf (bodyOf Tryz.f13) = [] by kernel_rfl) ▸ noLoops_ok) (Nat.le_of_ble_eq_true rfl) Tryz.func13 (by kernel_rfl) ((eq K x.1.1.1 x.1.1.2.1 x.1.1.2.2 x.1.2.1 x.1.2.2.1 x.1.2.2.2).trans h)
end vm_Start
namespace vm_Machine_inner
/-! ### vm_Machine_inner: function 56 -/
noncomputable def sig : Sig := ⟨(.ptr 0 0), [.cells 132 0 (.cons (.ty (.ptr yprogram)) (.cons (.own 1) (.cons (.ty (.slice yI)) (.cons (.own 2) (.cons (.own 3) (.cons (.ty yI) (.ty yI))))))), .list 2 yI [], .list 2 yI [], .list 86 (.pair yI (.pair yI (.pair yI (.pair (.own 0) (.own 1))))) [4, 5], .many 2 yI, .many 3 yI], (.ptrI 3 0), [.cells 132 0 (.cons (.ty (.ptr yprogram)) (.cons (.own 1) (.cons (.ty (.slice yI)) (.cons (.own 2) (.cons (.own 3) (.cons (.ty yI) (.ty yI))))))), .list 2 yI [], .list 2 yI [], .list 86 (.pair yI (.pair yI (.pair yI (.pair (.own 0) (.own 1))))) [4, 5], .many 2 yI, .many 3 yI]⟩
noncomputable def RF : RefitBy := noRefit
theorem RF_ok : RefitOk M 6 RF := noRefit_ok
noncomputable def C {α : Type} (K : Nat) : CallsBy α := noCalls
theorem C_ok {α : Type} (K : Nat) : CallsOk (α := α) M (C K) := noCalls_ok
noncomputable def CP {α : Type} (K : Nat) : CutBy α := noCuts
theorem CP_ok {α : Type} (K : Nat)  : CutsOk (α := α) M 6 (CP K) := noCuts_ok
noncomputable def f (K : Nat) (a6 : List (Int × Int × Int × Nat × Nat)) : Option (Nat) := bif decide ((0 : Int) ≤ IntKind.i64.wrap ((↑a6.length : Int) - (1 : Int))) then bif (IntKind.i64.wrap ((↑a6.length : Int) - (1 : Int))).toNat.blt a6.length then some (IntKind.i64.wrap ((↑a6.length : Int) - (1 : Int))).toNat else none else none
noncomputable def F (K : Nat) : sig.In → Option (Nat) := fun x => f K x.2.2.2.2.1
noncomputable def cv : sig.In → Nat → sig.Ou := fun x r => (r, ((x.2.1.1, ((), (x.2.1.2.2.1, ((), ((), (x.2.1.2.2.2.2.2.1, x.2.1.2.2.2.2.2.2)))))), (x.2.2.1, (x.2.2.2.1, (x.2.2.2.2.1, (x.2.2.2.2.2.1, (x.2.2.2.2.2.2.1, ())))))))
noncomputable def LP {α : Type} (K : Nat) : LoopsBy α := noLoops
theorem eq (K : Nat) (a0 : Option Lprogram) (a1 : List Int) (a2 : Int) (a3 : Int) (a4 : List Int) (a5 : List Int) (a6 : List (Int × Int × Int × Nat × Nat)) (a7 : List (List Int)) (a8 : List (List Int)) : runF M sig (C K) (eqBy M.P) (LP K) RF (CP K) 20 Tryz.f56 (bodyOf Tryz.f56) ((), ((a0, ((), (a1, ((), ((), (a2, a3)))))), (a4, (a5, (a6, (a7, (a8, ()))))))) = (f K a6).bind fun r => some (cv ((), ((a0, ((), (a1, ((), ((), (a2, a3)))))), (a4, (a5, (a6, (a7, (a8, ()))))))) r) := by
  unfold f
  try simp only [el]
  kernel_rfl
theorem rets (K : Nat) : ∀ x y, withCv (F K) cv x = some y → Rets M 56 sig x y := fun x y h => runF_rets (L := 20) (C_ok K) (eqBy_ok _) (by kernel_rfl) RF_ok (CP_ok K) (show LoopsOk M 6 (LP K) (loopsOf (bodyOf Tryz.f56)) from (show loopsOf (bodyOf Tryz.f56) = [] by kernel_rfl) ▸ noLoops_ok) (Nat.le_of_ble_eq_true rfl) Tryz.func56 (by kernel_rfl) ((eq K x.2.1.1 x.2.1.2.2.1 x.2.1.2.2.2.2.2.1 x.2.1.2.2.2.2.2.2 x.2.2.1 x.2.2.2.1 x.2.2.2.2.1 x.2.2.2.2.2.1 x.2.2.2.2.2.2.1).trans h)
end vm_Machine_inner
namespace vm_Machine_set
/-! ### vm_Machine_set: function 111 -/
noncomputable def sig : Sig := ⟨(.cons (.ptr 0 0) (.cons (.ptrI 3 0) (.cons (.ty yI) (.ty yI)))), [.cells 132 0 (.cons (.ty (.ptr yprogram)) (.cons (.own 1) (.cons (.ty (.slice yI)) (.cons (.own 2) (.cons (.own 3) (.cons (.ty yI) (.ty yI))))))), .list 2 yI [], .list 2 yI [], .list 86 (.pair yI (.pair yI (.pair yI (.pair (.own 0) (.own 1))))) [4, 5], .many 2 yI, .many 3 yI], .unit, [.cells 132 0 (.cons (.ty (.ptr yprogram)) (.cons (.own 1) (.cons (.ty (.slice yI)) (.cons (.own 2) (.cons (.own 3) (.cons (.ty yI) (.ty yI))))))), .list 2 yI [], .list 2 yI [], .list 86 (.pair yI (.pair yI (.pair yI (.pair (.own 0) (.own 1))))) [4, 5], .many 2 yI, .many 3 yI]⟩
noncomputable def RF : RefitBy := noRefit
theorem RF_ok : RefitOk M 6 RF := noRefit_ok
noncomputable def C {α : Type} (K : Nat) : CallsBy α := noCalls
theorem C_ok {α : Type} (K : Nat) : CallsOk (α := α) M (C K) := noCalls_ok
noncomputable def CP {α : Type} (K : Nat) : CutBy α := noCuts
theorem CP_ok {α : Type} (K : Nat)  : CutsOk (α := α) M 6 (CP K) := noCuts_ok
noncomputable def f (K : Nat) (a0 : Nat) (a1 : Int) (a2 : Int) (a3 : Option Lprogram) (a9 : List (Int × Int × Int × Nat × Nat)) (a10 : List (List Int)) (a11 : List (List Int)) : Option ((List (Int × Int × Int × Nat × Nat)) × List (List Int) × List (List Int)) := a9[a0]?.bind fun t => a9[a0]?.bind fun t_1 => a3.bind fun t_2 => a9[a0]?.bind fun t_3 => bif decide ((0 : Int) ≤ t_3.1) && true then t_2.2.1[Int.toNat t_3.1]?.bind fun t_4 => a9[a0]?.bind fun t_5 => bif decide ((0 : Int) ≤ t_5.2.1) && true then t_4[Int.toNat t_5.2.1]?.bind fun t_6 => a9[a0]?.bind fun t_7 => bif decide ((0 : Int) ≤ t_7.2.2.1) && true then t_6.2.1[Int.toNat t_7.2.2.1]?.bind fun t_8 => bindC (a10[t.2.2.2.1]?.bind fun t => some t.length) fun t_9 => bif decide ((0 : Int) ≤ a1) then bif a1.toNat.blt t_9 then a10[t.2.2.2.1]?.bind fun t_10 => t_10[a1.toNat]?.bind fun t_11 => bindC (a11[t_1.2.2.2.2]?.bind fun t => some t.length) fun t_12 => bif decide ((0 : Int) ≤ a1) then bif a1.toNat.blt t_12 then a11[t_1.2.2.2.2]?.bind fun t_13 => t_13[a1.toNat]?.bind fun t_14 => a9[a0]?.bind fun t_15 => a9[a0]?.bind fun t_16 => some (a9.set a0 (t_16.1, t_16.2.1, IntKind.i64.wrap (t_15.2.2.1 + (1 : Int)), t_16.2.2.2.1, t_16.2.2.2.2), a10.set t.2.2.2.1 (t_10.set a1.toNat a2), a11.set t_1.2.2.2.2 (t_13.set a1.toNat t_8)) else none else none else none else none else none else none else none
noncomputable def F (K : Nat) : sig.In → Option ((List (Int × Int × Int × Nat × Nat)) × List (List Int) × List (List Int)) := fun x => f K x.1.2.1 x.1.2.2.1 x.1.2.2.2 x.2.1.1 x.2.2.2.2.1 x.2.2.2.2.2.1 x.2.2.2.2.2.2.1
noncomputable def cv : sig.In → ((List (Int × Int × Int × Nat × Nat)) × List (List Int) × List (List Int)) → sig.Ou := fun x r => ((), ((x.2.1.1, ((), (x.2.1.2.2.1, ((), ((), (x.2.1.2.2.2.2.2.1, x.2.1.2.2.2.2.2.2)))))), (x.2.2.1, (x.2.2.2.1, (r.1, (r.2.1, (r.2.2, ())))))))
noncomputable def LP {α : Type} (K : Nat) : LoopsBy α := noLoops
theorem eq (K : Nat) (a0 : Nat) (a1 : Int) (a2 : Int) (a3 : Option Lprogram) (a4 : List Int) (a5 : Int) (a6 : Int) (a7 : List Int) (a8 : List Int) (a9 : List (Int × Int × Int × Nat × Nat)) (a10 : List (List Int)) (a11 : List (List Int)) : runF M sig (C K) (eqBy M.P) (LP K) RF (CP K) 20 Tryz.f111 (bodyOf Tryz.f111) (((), (a0, (a1, a2))), ((a3, ((), (a4, ((), ((), (a5, a6)))))), (a7, (a8, (a9, (a10, (a11, ()))))))) = (f K a0 a1 a2 a3 a9 a10 a11).bind fun r => some (cv (((), (a0, (a1, a2))), ((a3, ((), (a4, ((), ((), (a5, a6)))))), (a7, (a8, (a9, (a10, (a11, ()))))))) r) := by
  unfold f
  try simp only [el]
  kernel_rfl
theorem rets (K : Nat) : ∀ x y, withCv (F K) cv x = some y → Rets M 111 sig x y := fun x y h => runF_rets (L := 20) (C_ok K) (eqBy_ok _) (by kernel_rfl) RF_ok (CP_ok K) (show LoopsOk M 6 (LP K) (loopsOf (bodyOf Tryz.f111)) from (show loopsOf (bodyOf Tryz.f111) = [] by kernel_rfl) ▸ noLoops_ok) (Nat.le_of_ble_eq_true rfl) Tryz.func111 (by kernel_rfl) ((eq K x.1.2.1 x.1.2.2.1 x.1.2.2.2 x.2.1.1 x.2.1.2.2.1 x.2.1.2.2.2.2.2.1 x.2.1.2.2.2.2.2.2 x.2.2.1 x.2.2.2.1 x.2.2.2.2.1 x.2.2.2.2.2.1 x.2.2.2.2.2.2.1).trans h)
end vm_Machine_set
namespace vm_Machine_back
/-! ### vm_Machine_back: function 108 -/
noncomputable def sig : Sig := ⟨(.cons (.ptr 0 0) (.ty yI)), [.cells 132 0 (.cons (.ty (.ptr yprogram)) (.cons (.own 1) (.cons (.ty (.slice yI)) (.cons (.own 2) (.cons (.own 3) (.cons (.ty yI) (.ty yI))))))), .list 2 yI [], .list 2 yI [], .list 86 (.pair yI (.pair yI (.pair yI (.pair (.own 0) (.own 1))))) [4, 5], .many 2 yI, .many 3 yI], .unit, [.cells 132 0 (.cons (.ty (.ptr yprogram)) (.cons (.own 1) (.cons (.ty (.slice yI)) (.cons (.own 2) (.cons (.own 6) (.cons (.ty yI) (.ty yI))))))), .list 2 yI [], .list 2 yI [], .dead, .many 2 yI, .many 3 yI, .list 86 (.pair yI (.pair yI (.pair yI (.pair (.own 0) (.own 1))))) [4, 5]]⟩
noncomputable def RF : RefitBy := noRefit
theorem RF_ok : RefitOk M 6 RF := noRefit_ok
noncomputable def C {α : Type} (K : Nat) : CallsBy α := (entryD 56 vm_Machine_inner.sig (vm_Machine_inner.F K) vm_Machine_inner.cv (entryD 111 vm_Machine_set.sig (vm_Machine_set.F K) vm_Machine_set.cv noCalls))
theorem C_ok {α : Type} (K : Nat) : CallsOk (α := α) M (C K) := (entryD_ok (entryD_ok noCalls_ok (by rfl) Tryz.func111 (by kernel_rfl) rfl (vm_Machine_set.rets K)) (by rfl) Tryz.func56 (by kernel_rfl) rfl (vm_Machine_inner.rets K))
noncomputable def CP {α : Type} (K : Nat) : CutBy α := noCuts
theorem CP_ok {α : Type} (K : Nat)  : CutsOk (α := α) M 6 (CP K) := noCuts_ok
noncomputable def f (K : Nat) (a0 : Int) (a1 : Option Lprogram) (a3 : Int) (a4 : Int) (a7 : List (Int × Int × Int × Nat × Nat)) (a8 : List (List Int)) (a9 : List (List Int)) : Option (Int × Int × List (List Int) × List (List Int) × (List (Int × Int × Int × Nat × Nat))) := bif decide ((↑(0 : Nat) : Int) ≤ IntKind.i64.wrap ((↑a7.length : Int) - (1 : Int))) && decide (IntKind.i64.wrap ((↑a7.length : Int) - (1 : Int)) ≤ (↑a7.length : Int)) then bif (↑((IntKind.i64.wrap ((↑a7.length : Int) - (1 : Int))).toNat - (0 : Nat)) : Int) == (0 : Int) then bif ((IntKind.i64.wrap ((↑a7.length : Int) - (1 : Int))).toNat - (0 : Nat)).ble a7.length then some ((1 : Int), a0, a8, a9, List.take ((IntKind.i64.wrap ((↑a7.length : Int) - (1 : Int))).toNat - (0 : Nat)) a7) else none else bif ((IntKind.i64.wrap ((↑a7.length : Int) - (1 : Int))).toNat - (0 : Nat)).ble a7.length then (vm_Machine_inner.f K (List.take ((IntKind.i64.wrap ((↑a7.length : Int) - (1 : Int))).toNat - (0 : Nat)) a7)).bind fun t => a1.bind fun t_1 => (List.take ((IntKind.i64.wrap ((↑a7.length : Int) - (1 : Int))).toNat - (0 : Nat)) a7)[t]?.bind fun t_2 => bif decide ((0 : Int) ≤ t_2.1) && true then t_1.2.1[Int.toNat t_2.1]?.bind fun t_3 => (List.take ((IntKind.i64.wrap ((↑a7.length : Int) - (1 : Int))).toNat - (0 : Nat)) a7)[t]?.bind fun t_4 => bif decide ((0 : Int) ≤ t_4.2.1) && true then t_3[Int.toNat t_4.2.1]?.bind fun t_5 => (List.take ((IntKind.i64.wrap ((↑a7.length : Int) - (1 : Int))).toNat - (0 : Nat)) a7)[t]?.bind fun t_6 => bif decide ((0 : Int) ≤ t_6.2.2.1) && true then t_5.1[Int.toNat t_6.2.2.1]?.bind fun t_7 => (vm_Machine_set.f K t t_7.2.1 a0 a1 (List.take ((IntKind.i64.wrap ((↑a7.length : Int) - (1 : Int))).toNat - (0 : Nat)) a7) a8 a9).bind fun t => some (a3, a4, t.2.1, t.2.2, t.1) else none else none else none else none else none
noncomputable def F (K : Nat) : sig.In → Option (Int × Int × List (List Int) × List (List Int) × (List (Int × Int × Int × Nat × Nat))) := fun x => f K x.1.2 x.2.1.1 x.2.1.2.2.2.2.2.1 x.2.1.2.2.2.2.2.2 x.2.2.2.2.1 x.2.2.2.2.2.1 x.2.2.2.2.2.2.1
noncomputable def cv : sig.In → (Int × Int × List (List Int) × List (List Int) × (List (Int × Int × Int × Nat × Nat))) → sig.Ou := fun x r => ((), ((x.2.1.1, ((), (x.2.1.2.2.1, ((), ((), (r.1, r.2.1)))))), (x.2.2.1, (x.2.2.2.1, ((), (r.2.2.1, (r.2.2.2.1, (r.2.2.2.2, ()))))))))
noncomputable def LP {α : Type} (K : Nat) : LoopsBy α := noLoops
theorem eq (K : Nat) (a0 : Int) (a1 : Option Lprogram) (a2 : List Int) (a3 : Int) (a4 : Int) (a5 : List Int) (a6 : List Int) (a7 : List (Int × Int × Int × Nat × Nat)) (a8 : List (List Int)) (a9 : List (List Int)) : runF M sig (C K) (eqBy M.P) (LP K) RF (CP K) 20 Tryz.f108 (bodyOf Tryz.f108) (((), a0), ((a1, ((), (a2, ((), ((), (a3, a4)))))), (a5, (a6, (a7, (a8, (a9, ()))))))) = (f K a0 a1 a3 a4 a7 a8 a9).bind fun r => some (cv (((), a0), ((a1, ((), (a2, ((), ((), (a3, a4)))))), (a5, (a6, (a7, (a8, (a9, ()))))))) r) := by
  unfold f
  try simp only [el]
  kernel_rfl
theorem rets (K : Nat) : ∀ x y, withCv (F K) cv x = some y → Rets M 108 sig x y := fun x y h => runF_rets (L := 20) (C_ok K) (eqBy_ok _) (by kernel_rfl) RF_ok (CP_ok K) (show LoopsOk M 6 (LP K) (loopsOf (bodyOf Tryz.f108)) from (show loopsOf (bodyOf Tryz.f108) = [] by kernel_rfl) ▸ noLoops_ok) (Nat.le_of_ble_eq_true rfl) Tryz.func108 (by kernel_rfl) ((eq K x.1.2 x.2.1.1 x.2.1.2.2.1 x.2.1.2.2.2.2.2.1 x.2.1.2.2.2.2.2.2 x.2.2.1 x.2.2.2.1 x.2.2.2.2.1 x.2.2.2.2.2.1 x.2.2.2.2.2.2.1).trans h)
end vm_Machine_back
namespace vm_Machine_end
/-! ### vm_Machine_end: function 57 -/
noncomputable def sig : Sig := ⟨(.cons (.ptr 0 0) (.cons (.ptrI 3 0) (.agg (.cons (.ty yI) (.cons (.ty yI) (.cons (.ty yI) (.ty yI))))))), [.cells 132 0 (.cons (.ty (.ptr yprogram)) (.cons (.own 1) (.cons (.ty (.slice yI)) (.cons (.own 2) (.cons (.own 3) (.cons (.ty yI) (.ty yI))))))), .list 2 yI [], .list 2 yI [], .list 86 (.pair yI (.pair yI (.pair yI (.pair (.own 0) (.own 1))))) [4, 5], .many 2 yI, .many 3 yI], .unit, [.cells 132 0 (.cons (.ty (.ptr yprogram)) (.cons (.own 1) (.cons (.ty (.slice yI)) (.cons (.own 2) (.cons (.own 6) (.cons (.ty yI) (.ty yI))))))), .list 2 yI [], .list 2 yI [], .dead, .many 2 yI, .many 3 yI, .list 86 (.pair yI (.pair yI (.pair yI (.pair (.own 0) (.own 1))))) [4, 5]]⟩
noncomputable def RF : RefitBy := noRefit
theorem RF_ok : RefitOk M 6 RF := noRefit_ok
noncomputable def C {α : Type} (K : Nat) : CallsBy α := (entryD 108 vm_Machine_back.sig (vm_Machine_back.F K) vm_Machine_back.cv noCalls)
theorem C_ok {α : Type} (K : Nat) : CallsOk (α := α) M (C K) := (entryD_ok noCalls_ok (by rfl) Tryz.func108 (by kernel_rfl) rfl (vm_Machine_back.rets K))
noncomputable def CP {α : Type} (K : Nat) : CutBy α := (cpPut 4 (rpCut M bindC [.bool] [23] (C K) (eqBy M.P)) noCuts)
theorem CP_ok {α : Type} (K : Nat)  : CutsOk (α := α) M 6 (CP K) := (cpPut_ok (rpCut_ok (C_ok K) (eqBy_ok _) (by kernel_rfl)) noCuts_ok)
noncomputable def f (K : Nat) (a0 : Nat) (a1 : Int) (a2 : Int) (a3 : Int) (a4 : Int) (a5 : Option Lprogram) (a7 : Int) (a8 : Int) (a11 : List (Int × Int × Int × Nat × Nat)) (a12 : List (List Int)) (a13 : List (List Int)) : Option (Int × Int × List (List Int) × List (List Int) × (List (Int × Int × Int × Nat × Nat))) := bif a1 == (3 : Int) then a11[a0]?.bind fun t => bindC (a12[t.2.2.2.1]?.bind fun t => some t.length) fun t_1 => bif decide ((0 : Int) ≤ a2) then bif a2.toNat.blt t_1 then a12[t.2.2.2.1]?.bind fun t => t[a2.toNat]?.bind fun t => vm_Machine_back.f K t a5 a7 a8 a11 a12 a13 else none else none else bindC (bif a1 == (2 : Int) then a11[a0]?.bind fun t => bindC (a12[t.2.2.2.1]?.bind fun t => some t.length) fun t_1 => bif decide ((0 : Int) ≤ a2) then bif a2.toNat.blt t_1 then a12[t.2.2.2.1]?.bind fun t => t[a2.toNat]?.bind fun t => some (t == (0 : Int)) else none else none else some false) fun t => bif t then a11[a0]?.bind fun t => (a11.set a0 (t.1, a4, t.2.2.1, t.2.2.2.1, t.2.2.2.2))[a0]?.bind fun t_1 => some (a7, a8, a12, a13, (a11.set a0 (t.1, a4, t.2.2.1, t.2.2.2.1, t.2.2.2.2)).set a0 (t_1.1, t_1.2.1, (0 : Int), t_1.2.2.2.1, t_1.2.2.2.2)) else a11[a0]?.bind fun t => (a11.set a0 (t.1, a3, t.2.2.1, t.2.2.2.1, t.2.2.2.2))[a0]?.bind fun t_1 => some (a7, a8, a12, a13, (a11.set a0 (t.1, a3, t.2.2.1, t.2.2.2.1, t.2.2.2.2)).set a0 (t_1.1, t_1.2.1, (0 : Int), t_1.2.2.2.1, t_1.2.2.2.2))
noncomputable def F (K : Nat) : sig.In → Option (Int × Int × List (List Int) × List (List Int) × (List (Int × Int × Int × Nat × Nat))) := fun x => f K x.1.2.1 x.1.2.2.1 x.1.2.2.2.1 x.1.2.2.2.2.1 x.1.2.2.2.2.2 x.2.1.1 x.2.1.2.2.2.2.2.1 x.2.1.2.2.2.2.2.2 x.2.2.2.2.1 x.2.2.2.2.2.1 x.2.2.2.2.2.2.1
noncomputable def cv : sig.In → (Int × Int × List (List Int) × List (List Int) × (List (Int × Int × Int × Nat × Nat))) → sig.Ou := fun x r => ((), ((x.2.1.1, ((), (x.2.1.2.2.1, ((), ((), (r.1, r.2.1)))))), (x.2.2.1, (x.2.2.2.1, ((), (r.2.2.1, (r.2.2.2.1, (r.2.2.2.2, ()))))))))
noncomputable def LP {α : Type} (K : Nat) : LoopsBy α := noLoops
theorem eq (K : Nat) (a0 : Nat) (a1 : Int) (a2 : Int) (a3 : Int) (a4 : Int) (a5 : Option Lprogram) (a6 : List Int) (a7 : Int) (a8 : Int) (a9 : List Int) (a10 : List Int) (a11 : List (Int × Int × Int × Nat × Nat)) (a12 : List (List Int)) (a13 : List (List Int)) : runF M sig (C K) (eqBy M.P) (LP K) RF (CP K) 20 Tryz.f57 (bodyOf Tryz.f57) (((), (a0, (a1, (a2, (a3, a4))))), ((a5, ((), (a6, ((), ((), (a7, a8)))))), (a9, (a10, (a11, (a12, (a13, ()))))))) = (f K a0 a1 a2 a3 a4 a5 a7 a8 a11 a12 a13).bind fun r => some (cv (((), (a0, (a1, (a2, (a3, a4))))), ((a5, ((), (a6, ((), ((), (a7, a8)))))), (a9, (a10, (a11, (a12, (a13, ()))))))) r) := by
  unfold f
  try simp only [el]
  kernel_rfl
theorem rets (K : Nat) : ∀ x y, withCv (F K) cv x = some y → Rets M 57 sig x y := fun x y h => runF_rets (L := 20) (C_ok K) (eqBy_ok _) (by kernel_rfl) RF_ok (CP_ok K) (show LoopsOk M 6 (LP K) (loopsOf (bodyOf Tryz.f57)) from (show loopsOf (bodyOf Tryz.f57) = [] by kernel_rfl) ▸ noLoops_ok) (Nat.le_of_ble_eq_true rfl) Tryz.func57 (by kernel_rfl) ((eq K x.1.2.1 x.1.2.2.1 x.1.2.2.2.1 x.1.2.2.2.2.1 x.1.2.2.2.2.2 x.2.1.1 x.2.1.2.2.1 x.2.1.2.2.2.2.2.1 x.2.1.2.2.2.2.2.2 x.2.2.1 x.2.2.2.1 x.2.2.2.2.1 x.2.2.2.2.2.1 x.2.2.2.2.2.2.1).trans h)
end vm_Machine_end
namespace vm_Machine_call
/-! ### vm_Machine_call: function 109 -/
noncomputable def sig : Sig := ⟨(.cons (.ptr 0 0) (.cons (.ptrI 3 0) (.agg (.cons (.ty yI) (.cons (.ty yI) (.cons (.ty yI) (.cons (.ty yI) (.cons (.ty yI) (.ty (.slice yI)))))))))), [.cells 132 0 (.cons (.ty (.ptr yprogram)) (.cons (.own 1) (.cons (.ty (.slice yI)) (.cons (.own 2) (.cons (.own 3) (.cons (.ty yI) (.ty yI))))))), .list 2 yI [], .list 2 yI [], .list 86 (.pair yI (.pair yI (.pair yI (.pair (.own 0) (.own 1))))) [4, 5], .many 2 yI, .many 3 yI], (.ty .bool), [.cells 132 0 (.cons (.ty (.ptr yprogram)) (.cons (.own 1) (.cons (.ty (.slice yI)) (.cons (.own 2) (.cons (.own 6) (.cons (.ty yI) (.ty yI))))))), .list 2 yI [], .list 2 yI [], .dead, .many 2 yI, .many 3 yI, .list 86 (.pair yI (.pair yI (.pair yI (.pair (.own 0) (.own 1))))) [4, 5]]⟩
noncomputable def RF : RefitBy := noRefit
theorem RF_ok : RefitOk M 6 RF := noRefit_ok
noncomputable def C {α : Type} (K : Nat) : CallsBy α := (adoptC 55 [(0, 4), (1, 5)] (entryD 55 vm_program_frame.sig (vm_program_frame.F K) vm_program_frame.cv noCalls))
theorem C_ok {α : Type} (K : Nat) : CallsOk (α := α) M (C K) := (adoptC_ok (entryD_ok noCalls_ok (by rfl) Tryz.func55 (by kernel_rfl) rfl (vm_program_frame.rets K)))
noncomputable def CP {α : Type} (K : Nat) : CutBy α := noCuts
theorem CP_ok {α : Type} (K : Nat)  : CutsOk (α := α) M 6 (CP K) := noCuts_ok
noncomputable def l0.h : SSh := ⟨[0, 1, 5, 7, 17, 18, 19], (.cons (.ptr 0 0) (.cons (.ptrI 3 0) (.cons (.ptr 6 0) (.cons (.own 7) (.cons (.ty (.slice yI)) (.cons (.ty yI) (.ty yI))))))), [.cells 132 0 (.cons (.ty (.ptr yprogram)) (.cons (.own 1) (.cons (.ty (.slice yI)) (.cons (.own 2) (.cons (.own 3) (.cons (.ty yI) (.ty yI))))))), .list 2 yI [], .list 2 yI [], .list 86 (.pair yI (.pair yI (.pair yI (.pair (.own 0) (.own 1))))) [4, 5], .many 2 yI, .many 3 yI, .cells 144 0 (.cons (.ty yI) (.cons (.ty yI) (.cons (.ty yI) (.cons (.ty yI) (.cons (.ty yI) (.ty (.slice yI))))))), .list 2 yI []]⟩
noncomputable def l0.x : SSh := ⟨[0, 5, 7], (.cons (.ptr 0 0) (.cons (.ptr 6 0) (.own 7))), [.cells 132 0 (.cons (.ty (.ptr yprogram)) (.cons (.own 1) (.cons (.ty (.slice yI)) (.cons (.own 2) (.cons (.own 3) (.cons (.ty yI) (.ty yI))))))), .list 2 yI [], .list 2 yI [], .list 86 (.pair yI (.pair yI (.pair yI (.pair (.own 0) (.own 1))))) [4, 5], .many 2 yI, .many 3 yI, .cells 144 0 (.cons (.ty yI) (.cons (.ty yI) (.cons (.ty yI) (.cons (.ty yI) (.cons (.ty yI) (.ty (.slice yI))))))), .list 2 yI []]⟩
noncomputable def l0.cx : l0.h.I → (List Int) → l0.x.I := fun x r => (((), ((), ())), ((x.2.1.1, ((), (x.2.1.2.2.1, ((), ((), (x.2.1.2.2.2.2.2.1, x.2.1.2.2.2.2.2.2)))))), (x.2.2.1, (x.2.2.2.1, (x.2.2.2.2.1, (x.2.2.2.2.2.1, (x.2.2.2.2.2.2.1, ((x.2.2.2.2.2.2.2.1.1, (x.2.2.2.2.2.2.2.1.2.1, (x.2.2.2.2.2.2.2.1.2.2.1, (x.2.2.2.2.2.2.2.1.2.2.2.1, (x.2.2.2.2.2.2.2.1.2.2.2.2.1, x.2.2.2.2.2.2.2.1.2.2.2.2.2))))), (r, ())))))))))
noncomputable def l0.f (K : Nat) : Nat → Nat → List Int → Int → Int → List (Int × Int × Int × Nat × Nat) → List (List Int) → List Int → Option (List Int)
  | 0, _, _, _, _, _, _, _ => none
  | k + 1, a0, a1, a2, a3, a10, a11, a19 => bif decide (a3 < a2) then bif decide ((0 : Int) ≤ a3) && true then a1[a3.toNat]?.bind fun t => a10[a0]?.bind fun t_1 => bindC (a11[t_1.2.2.2.1]?.bind fun t => some t.length) fun t_2 => bif decide ((0 : Int) ≤ t) then bif (Int.toNat t).blt t_2 then a11[t_1.2.2.2.1]?.bind fun t_3 => t_3[Int.toNat t]?.bind fun t => bif (a19.length + [t].length).ble (100000 : Nat) then l0.f K k a0 a1 a2 (IntKind.i64.wrap (a3 + (1 : Int))) a10 a11 (a19 ++ [t]) else none else none else none else none else some a19
noncomputable def l0.F (K : Nat) (k : Nat) : l0.h.I → Option (List Int) := fun x => l0.f K k x.1.2.1 x.1.2.2.2.2.1 x.1.2.2.2.2.2.1 x.1.2.2.2.2.2.2 x.2.2.2.2.1 x.2.2.2.2.2.1 x.2.2.2.2.2.2.2.2.1
noncomputable def l0.lp {α : Type} (K : Nat) : St → Kn α → Option α := lpX 6 51 0 l0.h l0.x (l0.F K K) l0.cx
noncomputable def l0.c : Code := nthLoop Tryz.f109 0
noncomputable def l0.LP {α : Type} (K : Nat) : LoopsBy α := noLoops
theorem l0.eq (K : Nat) (k : Nat) (a0 : Nat) (a1 : List Int) (a2 : Int) (a3 : Int) (a4 : Option Lprogram) (a5 : List Int) (a6 : Int) (a7 : Int) (a8 : List Int) (a9 : List Int) (a10 : List (Int × Int × Int × Nat × Nat)) (a11 : List (List Int)) (a12 : List (List Int)) (a13 : Int) (a14 : Int) (a15 : Int) (a16 : Int) (a17 : Int) (a18 : List Int) (a19 : List Int) : exec M (C K) (eqBy M.P) (l0.LP K) RF (CP K) 20 l0.c (Kl 6 l0.h (withCv (l0.F K k) l0.cx) (backX 6 51 0 l0.x)) (l0.h.enc 51 (((), (a0, ((), ((), (a1, (a2, a3)))))), ((a4, ((), (a5, ((), ((), (a6, a7)))))), (a8, (a9, (a10, (a11, (a12, ((a13, (a14, (a15, (a16, (a17, a18))))), (a19, ())))))))))) = (l0.f K (k + 1) a0 a1 a2 a3 a10 a11 a19).bind fun r => some (l0.cx (((), (a0, ((), ((), (a1, (a2, a3)))))), ((a4, ((), (a5, ((), ((), (a6, a7)))))), (a8, (a9, (a10, (a11, (a12, ((a13, (a14, (a15, (a16, (a17, a18))))), (a19, ()))))))))) r) := by
  rw [l0.f]
  try simp only [el]
  kernel_rfl
theorem l0.leads (K : Nat) : ∀ k x y, withCv (l0.F K k) l0.cx x = some y → Leads M 6 (.loop l0.c) (l0.h.enc 51 x) (outX 51 0 l0.x y).1 (outX 51 0 l0.x y).2 :=
  loopX_sound (C_ok K) (eqBy_ok _) (by kernel_rfl) RF_ok (CP_ok K) (show LoopsOk M 6 (l0.LP K) (loopsOf l0.c) from (show loopsOf l0.c = [] by kernel_rfl) ▸ (noLoops_ok)) (Nat.le_of_ble_eq_true rfl) (Nat.le_of_ble_eq_true rfl) (fun x => rfl) (fun k x => l0.eq K k x.1.2.1 x.1.2.2.2.2.1 x.1.2.2.2.2.2.1 x.1.2.2.2.2.2.2 x.2.1.1 x.2.1.2.2.1 x.2.1.2.2.2.2.2.1 x.2.1.2.2.2.2.2.2 x.2.2.1 x.2.2.2.1 x.2.2.2.2.1 x.2.2.2.2.2.1 x.2.2.2.2.2.2.1 x.2.2.2.2.2.2.2.1.1 x.2.2.2.2.2.2.2.1.2.1 x.2.2.2.2.2.2.2.1.2.2.1 x.2.2.2.2.2.2.2.1.2.2.2.1 x.2.2.2.2.2.2.2.1.2.2.2.2.1 x.2.2.2.2.2.2.2.1.2.2.2.2.2 x.2.2.2.2.2.2.2.2.1)
theorem l0.lp_ok {α : Type} (K : Nat) : LoopOk (α := α) M 6 (nthLoop Tryz.f109 0) (l0.lp K) := lpX_ok (Nat.le_of_ble_eq_true rfl) (l0.leads K K)
noncomputable def f (K : Nat) (a0 : Nat) (a4 : Int) (a6 : List Int) (a7 : Option Lprogram) (a13 : List (Int × Int × Int × Nat × Nat)) (a14 : List (List Int)) (a15 : List (List Int)) : Option (Bool × List (List Int) × List (List Int) × (List (Int × Int × Int × Nat × Nat))) := bif (↑a13.length : Int) == (64 : Int) then some (false, a14, a15, a13) else (l0.f K K a0 a6 (↑a6.length : Int) (0 : Int) a13 a14 []).bind fun t => (vm_program_frame.f K a7 a4 t).bind fun t => bif (a13.length + [(a4, t.1, t.2.1, a14.length, a15.length)].length).ble (100000 : Nat) then some (true, a14 ++ [t.2.2.1], a15 ++ [t.2.2.2], a13 ++ [(a4, t.1, t.2.1, a14.length, a15.length)]) else none
noncomputable def F (K : Nat) : sig.In → Option (Bool × List (List Int) × List (List Int) × (List (Int × Int × Int × Nat × Nat))) := fun x => f K x.1.2.1 x.1.2.2.2.2.2.1 x.1.2.2.2.2.2.2.2 x.2.1.1 x.2.2.2.2.1 x.2.2.2.2.2.1 x.2.2.2.2.2.2.1
noncomputable def cv : sig.In → (Bool × List (List Int) × List (List Int) × (List (Int × Int × Int × Nat × Nat))) → sig.Ou := fun x r => (r.1, ((x.2.1.1, ((), (x.2.1.2.2.1, ((), ((), (x.2.1.2.2.2.2.2.1, x.2.1.2.2.2.2.2.2)))))), (x.2.2.1, (x.2.2.2.1, ((), (r.2.1, (r.2.2.1, (r.2.2.2, ()))))))))
noncomputable def LP {α : Type} (K : Nat) : LoopsBy α := (lpPut 5 (l0.lp K) noLoops)
theorem eq (K : Nat) (a0 : Nat) (a1 : Int) (a2 : Int) (a3 : Int) (a4 : Int) (a5 : Int) (a6 : List Int) (a7 : Option Lprogram) (a8 : List Int) (a9 : Int) (a10 : Int) (a11 : List Int) (a12 : List Int) (a13 : List (Int × Int × Int × Nat × Nat)) (a14 : List (List Int)) (a15 : List (List Int)) : runF M sig (C K) (eqBy M.P) (LP K) RF (CP K) 20 Tryz.f109 (bodyOf Tryz.f109) (((), (a0, (a1, (a2, (a3, (a4, (a5, a6))))))), ((a7, ((), (a8, ((), ((), (a9, a10)))))), (a11, (a12, (a13, (a14, (a15, ()))))))) = (f K a0 a4 a6 a7 a13 a14 a15).bind fun r => some (cv (((), (a0, (a1, (a2, (a3, (a4, (a5, a6))))))), ((a7, ((), (a8, ((), ((), (a9, a10)))))), (a11, (a12, (a13, (a14, (a15, ()))))))) r) := by
  unfold f
  try simp only [el]
  kernel_rfl
theorem rets (K : Nat) : ∀ x y, withCv (F K) cv x = some y → Rets M 109 sig x y := fun x y h => runF_rets (L := 20) (C_ok K) (eqBy_ok _) (by kernel_rfl) RF_ok (CP_ok K) (show LoopsOk M 6 (LP K) (loopsOf (bodyOf Tryz.f109)) from (show loopsOf (bodyOf Tryz.f109) = [nthLoop Tryz.f109 0] by kernel_rfl) ▸ (loopsOk_put (key := 5) (by kernel_rfl) (l0.lp_ok K) noLoops_ok (by kernel_rfl))) (Nat.le_of_ble_eq_true rfl) Tryz.func109 (by kernel_rfl) ((eq K x.1.2.1 x.1.2.2.1 x.1.2.2.2.1 x.1.2.2.2.2.1 x.1.2.2.2.2.2.1 x.1.2.2.2.2.2.2.1 x.1.2.2.2.2.2.2.2 x.2.1.1 x.2.1.2.2.1 x.2.1.2.2.2.2.2.1 x.2.1.2.2.2.2.2.2 x.2.2.1 x.2.2.2.1 x.2.2.2.2.1 x.2.2.2.2.2.1 x.2.2.2.2.2.2.1).trans h)
end vm_Machine_call
namespace vm_flag
/-! ### vm_flag: function 180 -/
noncomputable def sig : Sig := ⟨(.ty .bool), [], (.ty yI), []⟩
noncomputable def RF : RefitBy := noRefit
theorem RF_ok : RefitOk M 0 RF := noRefit_ok
noncomputable def C {α : Type} (K : Nat) : CallsBy α := noCalls
theorem C_ok {α : Type} (K : Nat) : CallsOk (α := α) M (C K) := noCalls_ok
noncomputable def CP {α : Type} (K : Nat) : CutBy α := noCuts
theorem CP_ok {α : Type} (K : Nat)  : CutsOk (α := α) M 0 (CP K) := noCuts_ok
noncomputable def f (K : Nat) (a0 : Bool) : Option (Int) := bif a0 then some (1 : Int) else some (0 : Int)
noncomputable def F (K : Nat) : sig.In → Option (Int) := fun x => f K x.1
noncomputable def cv : sig.In → Int → sig.Ou := fun x r => (r, ())
noncomputable def LP {α : Type} (K : Nat) : LoopsBy α := noLoops
theorem eq (K : Nat) (a0 : Bool) : runF M sig (C K) (eqBy M.P) (LP K) RF (CP K) 20 Tryz.f180 (bodyOf Tryz.f180) (a0, ()) = (f K a0).bind fun r => some (cv (a0, ()) r) := by
  unfold f
  try simp only [el]
  kernel_rfl
theorem rets (K : Nat) : ∀ x y, withCv (F K) cv x = some y → Rets M 180 sig x y := fun x y h => runF_rets (L := 20) (C_ok K) (eqBy_ok _) (by kernel_rfl) RF_ok (CP_ok K) (show LoopsOk M 0 (LP K) (loopsOf (bodyOf Tryz.f180)) from (show loopsOf (bodyOf Tryz.f180) = [] by kernel_rfl) ▸ noLoops_ok) (Nat.le_of_ble_eq_true rfl) Tryz.func180 (by kernel_rfl) ((eq K x.1).trans h)
end vm_flag
namespace vm_Arith
/-! ### vm_Arith: function 155 -/
noncomputable def sig : Sig := ⟨(.cons (.ty yI) (.cons (.ty yI) (.ty yI))), [], (.cons (.ty yI) (.ty .bool)), []⟩
noncomputable def RF : RefitBy := noRefit
theorem RF_ok : RefitOk M 0 RF := noRefit_ok
noncomputable def C {α : Type} (K : Nat) : CallsBy α := (entryD 180 vm_flag.sig (vm_flag.F K) vm_flag.cv noCalls)
theorem C_ok {α : Type} (K : Nat) : CallsOk (α := α) M (C K) := (entryD_ok noCalls_ok (by rfl) Tryz.func180 (by kernel_rfl) rfl (vm_flag.rets K))
noncomputable def CP {α : Type} (K : Nat) : CutBy α := noCuts
theorem CP_ok {α : Type} (K : Nat)  : CutsOk (α := α) M 0 (CP K) := noCuts_ok
noncomputable def f (K : Nat) (a0 : Int) (a1 : Int) (a2 : Int) : Option (Int × Bool) := bif a0 == (4 : Int) then some (IntKind.i64.wrap (a1 + a2), true) else bif a0 == (5 : Int) then some (IntKind.i64.wrap (a1 - a2), true) else bif a0 == (6 : Int) then some (IntKind.i64.wrap (a1 * a2), true) else bif a0 == (9 : Int) then some (IntKind.i64.wrap (↑(BitVec.ofInt (64 : Nat) a1 &&& BitVec.ofInt (64 : Nat) a2).toNat : Int), true) else bif a0 == (10 : Int) then some (IntKind.i64.wrap (↑(BitVec.ofInt (64 : Nat) a1 ^^^ BitVec.ofInt (64 : Nat) a2).toNat : Int), true) else bif a0 == (11 : Int) then (vm_flag.f K (decide (a1 < a2))).bind fun t => some (t, true) else bif a0 == (12 : Int) then (vm_flag.f K (a1 == a2)).bind fun t => some (t, true) else bif a0 == (7 : Int) then bif a2 == (0 : Int) then some ((0 : Int), false) else bif a0 == (7 : Int) then bif a2 == (0 : Int) then none else some (IntKind.i64.wrap (a1.tdiv a2), true) else bif a2 == (0 : Int) then none else some (a1.tmod a2, true) else bif a0 == (8 : Int) then bif a2 == (0 : Int) then some ((0 : Int), false) else bif a0 == (7 : Int) then bif a2 == (0 : Int) then none else some (IntKind.i64.wrap (a1.tdiv a2), true) else bif a2 == (0 : Int) then none else some (a1.tmod a2, true) else some ((0 : Int), false)
noncomputable def F (K : Nat) : sig.In → Option (Int × Bool) := fun x => f K x.1.1 x.1.2.1 x.1.2.2
noncomputable def cv : sig.In → (Int × Bool) → sig.Ou := fun x r => ((r.1, r.2), ())
noncomputable def LP {α : Type} (K : Nat) : LoopsBy α := noLoops
theorem eq (K : Nat) (a0 : Int) (a1 : Int) (a2 : Int) : runF M sig (C K) (eqBy M.P) (LP K) RF (CP K) 20 Tryz.f155 (bodyOf Tryz.f155) ((a0, (a1, a2)), ()) = (f K a0 a1 a2).bind fun r => some (cv ((a0, (a1, a2)), ()) r) := by
  unfold f
  try simp only [el]
  kernel_rfl
theorem rets (K : Nat) : ∀ x y, withCv (F K) cv x = some y → Rets M 155 sig x y := fun x y h => runF_rets (L := 20) (C_ok K) (eqBy_ok _) (by kernel_rfl) RF_ok (CP_ok K) (show LoopsOk M 0 (LP K) (loopsOf (bodyOf Tryz.f155)) from (show loopsOf (bodyOf Tryz.f155) = [] by kernel_rfl) ▸ noLoops_ok) (Nat.le_of_ble_eq_true rfl) Tryz.func155 (by kernel_rfl) ((eq K x.1.1 x.1.2.1 x.1.2.2).trans h)
end vm_Arith
namespace vm_Machine_value
/-! ### vm_Machine_value: function 110 -/
noncomputable def sig : Sig := ⟨(.cons (.ptr 0 0) (.cons (.ptrI 3 0) (.agg (.cons (.ty yI) (.cons (.ty yI) (.cons (.ty yI) (.cons (.ty yI) (.cons (.ty yI) (.ty (.slice yI)))))))))), [.cells 132 0 (.cons (.ty (.ptr yprogram)) (.cons (.own 1) (.cons (.ty (.slice yI)) (.cons (.own 2) (.cons (.own 3) (.cons (.ty yI) (.ty yI))))))), .list 2 yI [], .list 2 yI [], .list 86 (.pair yI (.pair yI (.pair yI (.pair (.own 0) (.own 1))))) [4, 5], .many 2 yI, .many 3 yI], (.cons (.ty yI) (.ty .bool)), [.cells 132 0 (.cons (.ty (.ptr yprogram)) (.cons (.own 1) (.cons (.ty (.slice yI)) (.cons (.own 2) (.cons (.own 3) (.cons (.ty yI) (.ty yI))))))), .list 2 yI [], .list 2 yI [], .list 86 (.pair yI (.pair yI (.pair yI (.pair (.own 0) (.own 1))))) [4, 5], .many 2 yI, .many 3 yI]⟩
noncomputable def RF : RefitBy := noRefit
theorem RF_ok : RefitOk M 6 RF := noRefit_ok
noncomputable def C {α : Type} (K : Nat) : CallsBy α := (entryD 155 vm_Arith.sig (vm_Arith.F K) vm_Arith.cv noCalls)
theorem C_ok {α : Type} (K : Nat) : CallsOk (α := α) M (C K) := (entryD_ok noCalls_ok (by rfl) Tryz.func155 (by kernel_rfl) rfl (vm_Arith.rets K))
noncomputable def CP {α : Type} (K : Nat) : CutBy α := noCuts
theorem CP_ok {α : Type} (K : Nat)  : CutsOk (α := α) M 6 (CP K) := noCuts_ok
noncomputable def f (K : Nat) (a0 : Nat) (a1 : Int) (a3 : Int) (a4 : Int) (a5 : Int) (a8 : List Int) (a11 : List Int) (a13 : List (Int × Int × Int × Nat × Nat)) (a14 : List (List Int)) : Option (Int × Bool × List Int) := bif a1 == (1 : Int) then some (a5, true, a8) else bif a1 == (2 : Int) then a13[a0]?.bind fun t => bindC (a14[t.2.2.2.1]?.bind fun t => some t.length) fun t_1 => bif decide ((0 : Int) ≤ a3) then bif a3.toNat.blt t_1 then a14[t.2.2.2.1]?.bind fun t => t[a3.toNat]?.bind fun t => some (t, true, a8) else none else none else bif a1 == (3 : Int) then a13[a0]?.bind fun t => bindC (a14[t.2.2.2.1]?.bind fun t => some t.length) fun t_1 => bif decide ((0 : Int) ≤ a3) then bif a3.toNat.blt t_1 then a14[t.2.2.2.1]?.bind fun t => t[a3.toNat]?.bind fun t => some (IntKind.i64.wrap ((0 : Int) - t), true, a8) else none else none else bif a1 == (13 : Int) then bif decide ((0 : Int) ≤ a4) then bif a4.toNat.blt a11.length then a11[a4.toNat]?.bind fun t => some (t, true, a8) else none else none else bif a1 == (15 : Int) then bif (↑a8.length : Int) == (0 : Int) then some ((0 : Int), false, a8) else a8[(0 : Nat)]?.bind fun t => bif decide ((1 : Int) ≤ (↑a8.length : Int)) && decide ((↑a8.length : Int) ≤ (↑a8.length : Int)) && true then some (t, true, List.drop (1 : Nat) (List.take (↑a8.length : Int).toNat a8)) else none else a13[a0]?.bind fun t => bindC (a14[t.2.2.2.1]?.bind fun t => some t.length) fun t_1 => bif decide ((0 : Int) ≤ a3) then bif a3.toNat.blt t_1 then a14[t.2.2.2.1]?.bind fun t => t[a3.toNat]?.bind fun t => a13[a0]?.bind fun t_2 => bindC (a14[t_2.2.2.2.1]?.bind fun t => some t.length) fun t_3 => bif decide ((0 : Int) ≤ a4) then bif a4.toNat.blt t_3 then a14[t_2.2.2.2.1]?.bind fun t_4 => t_4[a4.toNat]?.bind fun t_5 => (vm_Arith.f K a1 t t_5).bind fun t => some (t.1, t.2, a8) else none else none else none else none
noncomputable def F (K : Nat) : sig.In → Option (Int × Bool × List Int) := fun x => f K x.1.2.1 x.1.2.2.1 x.1.2.2.2.2.1 x.1.2.2.2.2.2.1 x.1.2.2.2.2.2.2.1 x.2.1.2.2.1 x.2.2.1 x.2.2.2.2.1 x.2.2.2.2.2.1
noncomputable def cv : sig.In → (Int × Bool × List Int) → sig.Ou := fun x r => ((r.1, r.2.1), ((x.2.1.1, ((), (r.2.2, ((), ((), (x.2.1.2.2.2.2.2.1, x.2.1.2.2.2.2.2.2)))))), (x.2.2.1, (x.2.2.2.1, (x.2.2.2.2.1, (x.2.2.2.2.2.1, (x.2.2.2.2.2.2.1, ())))))))
noncomputable def LP {α : Type} (K : Nat) : LoopsBy α := noLoops
theorem eq (K : Nat) (a0 : Nat) (a1 : Int) (a2 : Int) (a3 : Int) (a4 : Int) (a5 : Int) (a6 : List Int) (a7 : Option Lprogram) (a8 : List Int) (a9 : Int) (a10 : Int) (a11 : List Int) (a12 : List Int) (a13 : List (Int × Int × Int × Nat × Nat)) (a14 : List (List Int)) (a15 : List (List Int)) : runF M sig (C K) (eqBy M.P) (LP K) RF (CP K) 20 Tryz.f110 (bodyOf Tryz.f110) (((), (a0, (a1, (a2, (a3, (a4, (a5, a6))))))), ((a7, ((), (a8, ((), ((), (a9, a10)))))), (a11, (a12, (a13, (a14, (a15, ()))))))) = (f K a0 a1 a3 a4 a5 a8 a11 a13 a14).bind fun r => some (cv (((), (a0, (a1, (a2, (a3, (a4, (a5, a6))))))), ((a7, ((), (a8, ((), ((), (a9, a10)))))), (a11, (a12, (a13, (a14, (a15, ()))))))) r) := by
  unfold f
  try simp only [el]
  kernel_rfl
theorem rets (K : Nat) : ∀ x y, withCv (F K) cv x = some y → Rets M 110 sig x y := fun x y h => runF_rets (L := 20) (C_ok K) (eqBy_ok _) (by kernel_rfl) RF_ok (CP_ok K) (show LoopsOk M 6 (LP K) (loopsOf (bodyOf Tryz.f110)) from (show loopsOf (bodyOf Tryz.f110) = [] by kernel_rfl) ▸ noLoops_ok) (Nat.le_of_ble_eq_true rfl) Tryz.func110 (by kernel_rfl) ((eq K x.1.2.1 x.1.2.2.1 x.1.2.2.2.1 x.1.2.2.2.2.1 x.1.2.2.2.2.2.1 x.1.2.2.2.2.2.2.1 x.1.2.2.2.2.2.2.2 x.2.1.1 x.2.1.2.2.1 x.2.1.2.2.2.2.2.1 x.2.1.2.2.2.2.2.2 x.2.2.1 x.2.2.2.1 x.2.2.2.2.1 x.2.2.2.2.2.1 x.2.2.2.2.2.2.1).trans h)
end vm_Machine_value
namespace vm_Machine_insn
/-! ### vm_Machine_insn: function 58 -/
noncomputable def sig : Sig := ⟨(.cons (.ptr 0 0) (.cons (.ptrI 3 0) (.agg (.cons (.ty yI) (.cons (.ty yI) (.cons (.ty yI) (.cons (.ty yI) (.cons (.ty yI) (.ty (.slice yI)))))))))), [.cells 132 0 (.cons (.ty (.ptr yprogram)) (.cons (.own 1) (.cons (.ty (.slice yI)) (.cons (.own 2) (.cons (.own 3) (.cons (.ty yI) (.ty yI))))))), .list 2 yI [], .list 2 yI [], .list 86 (.pair yI (.pair yI (.pair yI (.pair (.own 0) (.own 1))))) [4, 5], .many 2 yI, .many 3 yI], (.ty .bool), [.cells 132 0 (.cons (.ty (.ptr yprogram)) (.cons (.own 1) (.cons (.ty (.slice yI)) (.cons (.own 6) (.cons (.own 7) (.cons (.ty yI) (.ty yI))))))), .list 2 yI [], .dead, .dead, .many 2 yI, .many 3 yI, .list 2 yI [], .list 86 (.pair yI (.pair yI (.pair yI (.pair (.own 0) (.own 1))))) [4, 5]]⟩
noncomputable def RF : RefitBy := noRefit
theorem RF_ok : RefitOk M 6 RF := noRefit_ok
noncomputable def C {α : Type} (K : Nat) : CallsBy α := (entryD 109 vm_Machine_call.sig (vm_Machine_call.F K) vm_Machine_call.cv (entryD 110 vm_Machine_value.sig (vm_Machine_value.F K) vm_Machine_value.cv (entryD 111 vm_Machine_set.sig (vm_Machine_set.F K) vm_Machine_set.cv noCalls)))
theorem C_ok {α : Type} (K : Nat) : CallsOk (α := α) M (C K) := (entryD_ok (entryD_ok (entryD_ok noCalls_ok (by rfl) Tryz.func111 (by kernel_rfl) rfl (vm_Machine_set.rets K)) (by rfl) Tryz.func110 (by kernel_rfl) rfl (vm_Machine_value.rets K)) (by rfl) Tryz.func109 (by kernel_rfl) rfl (vm_Machine_call.rets K))
noncomputable def CP {α : Type} (K : Nat) : CutBy α := noCuts
theorem CP_ok {α : Type} (K : Nat)  : CutsOk (α := α) M 6 (CP K) := noCuts_ok
noncomputable def f (K : Nat) (a0 : Nat) (a1 : Int) (a2 : Int) (a3 : Int) (a4 : Int) (a5 : Int) (a6 : List Int) (a7 : Option Lprogram) (a8 : List Int) (a11 : List Int) (a12 : List Int) (a13 : List (Int × Int × Int × Nat × Nat)) (a14 : List (List Int)) (a15 : List (List Int)) : Option (Bool × List Int × List Int × List (List Int) × List (List Int) × List Int × (List (Int × Int × Int × Nat × Nat))) := bif a1 == (17 : Int) then (vm_Machine_call.f K a0 a4 a6 a7 a13 a14 a15).bind fun t => some (t.1, a8, a11, t.2.1, t.2.2.1, a12, t.2.2.2) else bif a1 == (14 : Int) then a13[a0]?.bind fun t => bindC (a14[t.2.2.2.1]?.bind fun t => some t.length) fun t_1 => bif decide ((0 : Int) ≤ a3) then bif a3.toNat.blt t_1 then a14[t.2.2.2.1]?.bind fun t => t[a3.toNat]?.bind fun t => bif decide ((0 : Int) ≤ a4) then bif a4.toNat.blt a11.length then a11[a4.toNat]?.bind fun t_2 => a13[a0]?.bind fun t_3 => a13[a0]?.bind fun t_4 => some (true, a8, a11.set a4.toNat t, a14, a15, a12, a13.set a0 (t_4.1, t_4.2.1, IntKind.i64.wrap (t_3.2.2.1 + (1 : Int)), t_4.2.2.2.1, t_4.2.2.2.2)) else none else none else none else none else bif a1 == (16 : Int) then a13[a0]?.bind fun t => bindC (a14[t.2.2.2.1]?.bind fun t => some t.length) fun t_1 => bif decide ((0 : Int) ≤ a3) then bif a3.toNat.blt t_1 then a14[t.2.2.2.1]?.bind fun t => t[a3.toNat]?.bind fun t => bif (a12.length + [t].length).ble (100000 : Nat) then a13[a0]?.bind fun t_2 => a13[a0]?.bind fun t_3 => some (true, a8, a11, a14, a15, a12 ++ [t], a13.set a0 (t_3.1, t_3.2.1, IntKind.i64.wrap (t_2.2.2.1 + (1 : Int)), t_3.2.2.2.1, t_3.2.2.2.2)) else none else none else none else (vm_Machine_value.f K a0 a1 a3 a4 a5 a8 a11 a13 a14).bind fun t => bif t.2.1 then (vm_Machine_set.f K a0 a2 t.1 a7 a13 a14 a15).bind fun t_1 => some (t.2.1, t.2.2, a11, t_1.2.1, t_1.2.2, a12, t_1.1) else some (t.2.1, t.2.2, a11, a14, a15, a12, a13)
noncomputable def F (K : Nat) : sig.In → Option (Bool × List Int × List Int × List (List Int) × List (List Int) × List Int × (List (Int × Int × Int × Nat × Nat))) := fun x => f K x.1.2.1 x.1.2.2.1 x.1.2.2.2.1 x.1.2.2.2.2.1 x.1.2.2.2.2.2.1 x.1.2.2.2.2.2.2.1 x.1.2.2.2.2.2.2.2 x.2.1.1 x.2.1.2.2.1 x.2.2.1 x.2.2.2.1 x.2.2.2.2.1 x.2.2.2.2.2.1 x.2.2.2.2.2.2.1
noncomputable def cv : sig.In → (Bool × List Int × List Int × List (List Int) × List (List Int) × List Int × (List (Int × Int × Int × Nat × Nat))) → sig.Ou := fun x r => (r.1, ((x.2.1.1, ((), (r.2.1, ((), ((), (x.2.1.2.2.2.2.2.1, x.2.1.2.2.2.2.2.2)))))), (r.2.2.1, ((), ((), (r.2.2.2.1, (r.2.2.2.2.1, (r.2.2.2.2.2.1, (r.2.2.2.2.2.2, ())))))))))
noncomputable def LP {α : Type} (K : Nat) : LoopsBy α := noLoops
theorem eq (K : Nat) (a0 : Nat) (a1 : Int) (a2 : Int) (a3 : Int) (a4 : Int) (a5 : Int) (a6 : List Int) (a7 : Option Lprogram) (a8 : List Int) (a9 : Int) (a10 : Int) (a11 : List Int) (a12 : List Int) (a13 : List (Int × Int × Int × Nat × Nat)) (a14 : List (List Int)) (a15 : List (List Int)) : runF M sig (C K) (eqBy M.P) (LP K) RF (CP K) 20 Tryz.f58 (bodyOf Tryz.f58) (((), (a0, (a1, (a2, (a3, (a4, (a5, a6))))))), ((a7, ((), (a8, ((), ((), (a9, a10)))))), (a11, (a12, (a13, (a14, (a15, ()))))))) = (f K a0 a1 a2 a3 a4 a5 a6 a7 a8 a11 a12 a13 a14 a15).bind fun r => some (cv (((), (a0, (a1, (a2, (a3, (a4, (a5, a6))))))), ((a7, ((), (a8, ((), ((), (a9, a10)))))), (a11, (a12, (a13, (a14, (a15, ()))))))) r) := by
  unfold f
  try simp only [el]
  kernel_rfl
theorem rets (K : Nat) : ∀ x y, withCv (F K) cv x = some y → Rets M 58 sig x y := fun x y h => runF_rets (L := 20) (C_ok K) (eqBy_ok _) (by kernel_rfl) RF_ok (CP_ok K) (show LoopsOk M 6 (LP K) (loopsOf (bodyOf Tryz.f58)) from (show loopsOf (bodyOf Tryz.f58) = [] by kernel_rfl) ▸ noLoops_ok) (Nat.le_of_ble_eq_true rfl) Tryz.func58 (by kernel_rfl) ((eq K x.1.2.1 x.1.2.2.1 x.1.2.2.2.1 x.1.2.2.2.2.1 x.1.2.2.2.2.2.1 x.1.2.2.2.2.2.2.1 x.1.2.2.2.2.2.2.2 x.2.1.1 x.2.1.2.2.1 x.2.1.2.2.2.2.2.1 x.2.1.2.2.2.2.2.2 x.2.2.1 x.2.2.2.1 x.2.2.2.2.1 x.2.2.2.2.2.1 x.2.2.2.2.2.2.1).trans h)
end vm_Machine_insn
namespace vm_Machine_Step
/-! ### vm_Machine_Step: function 14 -/
noncomputable def sig : Sig := ⟨(.ptr 0 0), [.cells 132 0 (.cons (.ty (.ptr yprogram)) (.cons (.own 1) (.cons (.ty (.slice yI)) (.cons (.own 2) (.cons (.own 3) (.cons (.ty yI) (.ty yI))))))), .list 2 yI [], .list 2 yI [], .list 86 (.pair yI (.pair yI (.pair yI (.pair (.own 0) (.own 1))))) [4, 5], .many 2 yI, .many 3 yI], (.ty .bool), [.cells 132 0 (.cons (.ty (.ptr yprogram)) (.cons (.own 1) (.cons (.ty (.slice yI)) (.cons (.own 6) (.cons (.own 7) (.cons (.ty yI) (.ty yI))))))), .list 2 yI [], .dead, .dead, .many 2 yI, .many 3 yI, .list 2 yI [], .list 86 (.pair yI (.pair yI (.pair yI (.pair (.own 0) (.own 1))))) [4, 5]]⟩
noncomputable def RF : RefitBy := noRefit
theorem RF_ok : RefitOk M 6 RF := noRefit_ok
noncomputable def C {α : Type} (K : Nat) : CallsBy α := (entryD 56 vm_Machine_inner.sig (vm_Machine_inner.F K) vm_Machine_inner.cv (entryD 57 vm_Machine_end.sig (vm_Machine_end.F K) vm_Machine_end.cv (entryD 58 vm_Machine_insn.sig (vm_Machine_insn.F K) vm_Machine_insn.cv noCalls)))
theorem C_ok {α : Type} (K : Nat) : CallsOk (α := α) M (C K) := (entryD_ok (entryD_ok (entryD_ok noCalls_ok (by rfl) Tryz.func58 (by kernel_rfl) rfl (vm_Machine_insn.rets K)) (by rfl) Tryz.func57 (by kernel_rfl) rfl (vm_Machine_end.rets K)) (by rfl) Tryz.func56 (by kernel_rfl) rfl (vm_Machine_inner.rets K))
noncomputable def CP {α : Type} (K : Nat) : CutBy α := (cpPut 1 (rpCut M bindC [.bool] [13] (C K) (eqBy M.P)) noCuts)
theorem CP_ok {α : Type} (K : Nat)  : CutsOk (α := α) M 6 (CP K) := (cpPut_ok (rpCut_ok (C_ok K) (eqBy_ok _) (by kernel_rfl)) noCuts_ok)
noncomputable def f (K : Nat) (a0 : Option Lprogram) (a1 : List Int) (a2 : Int) (a3 : Int) (a4 : List Int) (a5 : List Int) (a6 : List (Int × Int × Int × Nat × Nat)) (a7 : List (List Int)) (a8 : List (List Int)) : Option (Bool × List Int × Int × Int × List Int × List (List Int) × List (List Int) × List Int × (List (Int × Int × Int × Nat × Nat))) := bindC (some (a2 != (0 : Int))) fun t => bif t then some (false, a1, a2, a3, a4, a7, a8, a5, a6) else (vm_Machine_inner.f K a6).bind fun t => a0.bind fun t_1 => a6[t]?.bind fun t_2 => bif decide ((0 : Int) ≤ t_2.1) && true then t_1.2.1[Int.toNat t_2.1]?.bind fun t_3 => a6[t]?.bind fun t_4 => bif decide ((0 : Int) ≤ t_4.2.1) && true then t_3[Int.toNat t_4.2.1]?.bind fun t_5 => a6[t]?.bind fun t_6 => bif t_6.2.2.1 == (↑(List.length t_5.1) : Int) then (vm_Machine_end.f K t t_5.2.2.1 t_5.2.2.2.1 t_5.2.2.2.2.1 t_5.2.2.2.2.2 a0 a2 a3 a6 a7 a8).bind fun t => some (true, a1, t.1, t.2.1, a4, t.2.2.1, t.2.2.2.1, a5, t.2.2.2.2) else a6[t]?.bind fun t_7 => bif decide ((0 : Int) ≤ t_7.2.2.1) && true then t_5.1[Int.toNat t_7.2.2.1]?.bind fun t_8 => (vm_Machine_insn.f K t t_8.1 t_8.2.1 t_8.2.2.1 t_8.2.2.2.1 t_8.2.2.2.2.1 t_8.2.2.2.2.2 a0 a1 a4 a5 a6 a7 a8).bind fun t => bif !t.1 then some (false, t.2.1, (2 : Int), a3, t.2.2.1, t.2.2.2.1, t.2.2.2.2.1, t.2.2.2.2.2.1, t.2.2.2.2.2.2) else some (true, t.2.1, a2, a3, t.2.2.1, t.2.2.2.1, t.2.2.2.2.1, t.2.2.2.2.2.1, t.2.2.2.2.2.2) else none else none else none
noncomputable def F (K : Nat) : sig.In → Option (Bool × List Int × Int × Int × List Int × List (List Int) × List (List Int) × List Int × (List (Int × Int × Int × Nat × Nat))) := fun x => f K x.2.1.1 x.2.1.2.2.1 x.2.1.2.2.2.2.2.1 x.2.1.2.2.2.2.2.2 x.2.2.1 x.2.2.2.1 x.2.2.2.2.1 x.2.2.2.2.2.1 x.2.2.2.2.2.2.1
noncomputable def cv : sig.In → (Bool × List Int × Int × Int × List Int × List (List Int) × List (List Int) × List Int × (List (Int × Int × Int × Nat × Nat))) → sig.Ou := fun x r => (r.1, ((x.2.1.1, ((), (r.2.1, ((), ((), (r.2.2.1, r.2.2.2.1)))))), (r.2.2.2.2.1, ((), ((), (r.2.2.2.2.2.1, (r.2.2.2.2.2.2.1, (r.2.2.2.2.2.2.2.1, (r.2.2.2.2.2.2.2.2, ())))))))))
noncomputable def LP {α : Type} (K : Nat) : LoopsBy α := noLoops
theorem eq (K : Nat) (a0 : Option Lprogram) (a1 : List Int) (a2 : Int) (a3 : Int) (a4 : List Int) (a5 : List Int) (a6 : List (Int × Int × Int × Nat × Nat)) (a7 : List (List Int)) (a8 : List (List Int)) : runF M sig (C K) (eqBy M.P) (LP K) RF (CP K) 20 Tryz.f14 (bodyOf Tryz.f14) ((), ((a0, ((), (a1, ((), ((), (a2, a3)))))), (a4, (a5, (a6, (a7, (a8, ()))))))) = (f K a0 a1 a2 a3 a4 a5 a6 a7 a8).bind fun r => some (cv ((), ((a0, ((), (a1, ((), ((), (a2, a3)))))), (a4, (a5, (a6, (a7, (a8, ()))))))) r) := by
  unfold f
  try simp only [el]
  kernel_rfl
theorem rets (K : Nat) : ∀ x y, withCv (F K) cv x = some y → Rets M 14 sig x y := fun x y h => runF_rets (L := 20) (C_ok K) (eqBy_ok _) (by kernel_rfl) RF_ok (CP_ok K) (show LoopsOk M 6 (LP K) (loopsOf (bodyOf Tryz.f14)) from (show loopsOf (bodyOf Tryz.f14) = [] by kernel_rfl) ▸ noLoops_ok) (Nat.le_of_ble_eq_true rfl) Tryz.func14 (by kernel_rfl) ((eq K x.2.1.1 x.2.1.2.2.1 x.2.1.2.2.2.2.2.1 x.2.1.2.2.2.2.2.2 x.2.2.1 x.2.2.2.1 x.2.2.2.2.1 x.2.2.2.2.2.1 x.2.2.2.2.2.2.1).trans h)
end vm_Machine_Step
namespace vm_Machine_Run
/-! ### vm_Machine_Run: function 34 -/
noncomputable def sig : Sig := ⟨(.cons (.ptr 0 0) (.ty yI)), [.cells 132 0 (.cons (.ty (.ptr yprogram)) (.cons (.own 1) (.cons (.ty (.slice yI)) (.cons (.own 2) (.cons (.own 3) (.cons (.ty yI) (.ty yI))))))), .list 2 yI [], .list 2 yI [], .list 86 (.pair yI (.pair yI (.pair yI (.pair (.own 0) (.own 1))))) [4, 5], .many 2 yI, .many 3 yI], (.ty yI), [.cells 132 0 (.cons (.ty (.ptr yprogram)) (.cons (.own 1) (.cons (.ty (.slice yI)) (.cons (.own 6) (.cons (.own 7) (.cons (.ty yI) (.ty yI))))))), .list 2 yI [], .dead, .dead, .many 2 yI, .many 3 yI, .list 2 yI [], .list 86 (.pair yI (.pair yI (.pair yI (.pair (.own 0) (.own 1))))) [4, 5]]⟩
noncomputable def RF : RefitBy := noRefit
theorem RF_ok : RefitOk M 6 RF := noRefit_ok
noncomputable def C {α : Type} (K : Nat) : CallsBy α := (entryD 14 vm_Machine_Step.sig (vm_Machine_Step.F K) vm_Machine_Step.cv noCalls)
theorem C_ok {α : Type} (K : Nat) : CallsOk (α := α) M (C K) := (entryD_ok noCalls_ok (by rfl) Tryz.func14 (by kernel_rfl) rfl (vm_Machine_Step.rets K))
noncomputable def CP {α : Type} (K : Nat) : CutBy α := noCuts
theorem CP_ok {α : Type} (K : Nat)  : CutsOk (α := α) M 6 (CP K) := noCuts_ok
noncomputable def l0.h : SSh := ⟨[0, 1, 5], (.cons (.ptr 0 0) (.cons (.ty yI) (.ty yI))), [.cells 132 0 (.cons (.ty (.ptr yprogram)) (.cons (.own 1) (.cons (.ty (.slice yI)) (.cons (.own 6) (.cons (.own 7) (.cons (.ty yI) (.ty yI))))))), .list 2 yI [], .dead, .dead, .many 2 yI, .many 3 yI, .list 2 yI [], .list 86 (.pair yI (.pair yI (.pair yI (.pair (.own 0) (.own 1))))) [4, 5]]⟩
noncomputable def l0.x : SSh := ⟨[5], (.ty yI), [.cells 132 0 (.cons (.ty (.ptr yprogram)) (.cons (.own 1) (.cons (.ty (.slice yI)) (.cons (.own 6) (.cons (.own 7) (.cons (.ty yI) (.ty yI))))))), .list 2 yI [], .dead, .dead, .many 2 yI, .many 3 yI, .list 2 yI [], .list 86 (.pair yI (.pair yI (.pair yI (.pair (.own 0) (.own 1))))) [4, 5]]⟩
noncomputable def l0.cx : l0.h.I → (Int × List Int × Int × Int × List Int × List (List Int) × List (List Int) × List Int × (List (Int × Int × Int × Nat × Nat))) → l0.x.I := fun x r => (r.1, ((x.2.1.1, ((), (r.2.1, ((), ((), (r.2.2.1, r.2.2.2.1)))))), (r.2.2.2.2.1, ((), ((), (r.2.2.2.2.2.1, (r.2.2.2.2.2.2.1, (r.2.2.2.2.2.2.2.1, (r.2.2.2.2.2.2.2.2, ())))))))))
noncomputable def l0.f (K : Nat) : Nat → Int → Int → Option Lprogram → List Int → Int → Int → List Int → List (List Int) → List (List Int) → List Int → List (Int × Int × Int × Nat × Nat) → Option (Int × List Int × Int × Int × List Int × List (List Int) × List (List Int) × List Int × (List (Int × Int × Int × Nat × Nat)))
  | 0, _, _, _, _, _, _, _, _, _, _, _ => none
  | k + 1, a0, a1, a2, a3, a4, a5, a6, a7, a8, a9, a10 => bif decide (a1 < a0) then (vm_Machine_Step.f K a2 a3 a4 a5 a6 a9 a10 a7 a8).bind fun t => bif t.1 then l0.f K k a0 (IntKind.i64.wrap (a1 + (1 : Int))) a2 t.2.1 t.2.2.1 t.2.2.2.1 t.2.2.2.2.1 t.2.2.2.2.2.1 t.2.2.2.2.2.2.1 t.2.2.2.2.2.2.2.1 t.2.2.2.2.2.2.2.2 else some (a1, t.2.1, t.2.2.1, t.2.2.2.1, t.2.2.2.2.1, t.2.2.2.2.2.1, t.2.2.2.2.2.2.1, t.2.2.2.2.2.2.2.1, t.2.2.2.2.2.2.2.2) else some (a1, a3, a4, a5, a6, a7, a8, a9, a10)
noncomputable def l0.F (K : Nat) (k : Nat) : l0.h.I → Option (Int × List Int × Int × Int × List Int × List (List Int) × List (List Int) × List Int × (List (Int × Int × Int × Nat × Nat))) := fun x => l0.f K k x.1.2.1 x.1.2.2 x.2.1.1 x.2.1.2.2.1 x.2.1.2.2.2.2.2.1 x.2.1.2.2.2.2.2.2 x.2.2.1 x.2.2.2.2.2.1 x.2.2.2.2.2.2.1 x.2.2.2.2.2.2.2.1 x.2.2.2.2.2.2.2.2.1
noncomputable def l0.lp {α : Type} (K : Nat) : St → Kn α → Option α := lpX 6 16 0 l0.h l0.x (l0.F K K) l0.cx
noncomputable def l0.c : Code := nthLoop Tryz.f34 0
noncomputable def l0.LP {α : Type} (K : Nat) : LoopsBy α := noLoops
theorem l0.eq (K : Nat) (k : Nat) (a0 : Int) (a1 : Int) (a2 : Option Lprogram) (a3 : List Int) (a4 : Int) (a5 : Int) (a6 : List Int) (a7 : List (List Int)) (a8 : List (List Int)) (a9 : List Int) (a10 : List (Int × Int × Int × Nat × Nat)) : exec M (C K) (eqBy M.P) (l0.LP K) RF (CP K) 20 l0.c (Kl 6 l0.h (withCv (l0.F K k) l0.cx) (backX 6 16 0 l0.x)) (l0.h.enc 16 (((), (a0, a1)), ((a2, ((), (a3, ((), ((), (a4, a5)))))), (a6, ((), ((), (a7, (a8, (a9, (a10, ())))))))))) = (l0.f K (k + 1) a0 a1 a2 a3 a4 a5 a6 a7 a8 a9 a10).bind fun r => some (l0.cx (((), (a0, a1)), ((a2, ((), (a3, ((), ((), (a4, a5)))))), (a6, ((), ((), (a7, (a8, (a9, (a10, ()))))))))) r) := by
  rw [l0.f]
  try simp only [el]
  kernel_rfl
theorem l0.leads (K : Nat) : ∀ k x y, withCv (l0.F K k) l0.cx x = some y → Leads M 6 (.loop l0.c) (l0.h.enc 16 x) (outX 16 0 l0.x y).1 (outX 16 0 l0.x y).2 :=
  loopX_sound (C_ok K) (eqBy_ok _) (by kernel_rfl) RF_ok (CP_ok K) (show LoopsOk M 6 (l0.LP K) (loopsOf l0.c) from (show loopsOf l0.c = [] by kernel_rfl) ▸ (noLoops_ok)) (Nat.le_of_ble_eq_true rfl) (Nat.le_of_ble_eq_true rfl) (fun x => rfl) (fun k x => l0.eq K k x.1.2.1 x.1.2.2 x.2.1.1 x.2.1.2.2.1 x.2.1.2.2.2.2.2.1 x.2.1.2.2.2.2.2.2 x.2.2.1 x.2.2.2.2.2.1 x.2.2.2.2.2.2.1 x.2.2.2.2.2.2.2.1 x.2.2.2.2.2.2.2.2.1)
theorem l0.lp_ok {α : Type} (K : Nat) : LoopOk (α := α) M 6 (nthLoop Tryz.f34 0) (l0.lp K) := lpX_ok (Nat.le_of_ble_eq_true rfl) (l0.leads K K)
noncomputable def f (K : Nat) (a0 : Int) (a1 : Option Lprogram) (a2 : List Int) (a3 : Int) (a4 : Int) (a5 : List Int) (a6 : List Int) (a7 : List (Int × Int × Int × Nat × Nat)) (a8 : List (List Int)) (a9 : List (List Int)) : Option (Int × List Int × Int × Int × List Int × List (List Int) × List (List Int) × List Int × (List (Int × Int × Int × Nat × Nat))) := l0.f K K a0 (0 : Int) a1 a2 a3 a4 a5 a8 a9 a6 a7
noncomputable def F (K : Nat) : sig.In → Option (Int × List Int × Int × Int × List Int × List (List Int) × List (List Int) × List Int × (List (Int × Int × Int × Nat × Nat))) := fun x => f K x.1.2 x.2.1.1 x.2.1.2.2.1 x.2.1.2.2.2.2.2.1 x.2.1.2.2.2.2.2.2 x.2.2.1 x.2.2.2.1 x.2.2.2.2.1 x.2.2.2.2.2.1 x.2.2.2.2.2.2.1
noncomputable def cv : sig.In → (Int × List Int × Int × Int × List Int × List (List Int) × List (List Int) × List Int × (List (Int × Int × Int × Nat × Nat))) → sig.Ou := fun x r => (r.1, ((x.2.1.1, ((), (r.2.1, ((), ((), (r.2.2.1, r.2.2.2.1)))))), (r.2.2.2.2.1, ((), ((), (r.2.2.2.2.2.1, (r.2.2.2.2.2.2.1, (r.2.2.2.2.2.2.2.1, (r.2.2.2.2.2.2.2.2, ())))))))))
noncomputable def LP {α : Type} (K : Nat) : LoopsBy α := (lpPut 2 (l0.lp K) noLoops)
theorem eq (K : Nat) (a0 : Int) (a1 : Option Lprogram) (a2 : List Int) (a3 : Int) (a4 : Int) (a5 : List Int) (a6 : List Int) (a7 : List (Int × Int × Int × Nat × Nat)) (a8 : List (List Int)) (a9 : List (List Int)) : runF M sig (C K) (eqBy M.P) (LP K) RF (CP K) 20 Tryz.f34 (bodyOf Tryz.f34) (((), a0), ((a1, ((), (a2, ((), ((), (a3, a4)))))), (a5, (a6, (a7, (a8, (a9, ()))))))) = (f K a0 a1 a2 a3 a4 a5 a6 a7 a8 a9).bind fun r => some (cv (((), a0), ((a1, ((), (a2, ((), ((), (a3, a4)))))), (a5, (a6, (a7, (a8, (a9, ()))))))) r) := by
  unfold f
  try simp only [el]
  kernel_rfl
theorem rets (K : Nat) : ∀ x y, withCv (F K) cv x = some y → Rets M 34 sig x y := fun x y h => runF_rets (L := 20) (C_ok K) (eqBy_ok _) (by kernel_rfl) RF_ok (CP_ok K) (show LoopsOk M 6 (LP K) (loopsOf (bodyOf Tryz.f34)) from (show loopsOf (bodyOf Tryz.f34) = [nthLoop Tryz.f34 0] by kernel_rfl) ▸ (loopsOk_put (key := 2) (by kernel_rfl) (l0.lp_ok K) noLoops_ok (by kernel_rfl))) (Nat.le_of_ble_eq_true rfl) Tryz.func34 (by kernel_rfl) ((eq K x.1.2 x.2.1.1 x.2.1.2.2.1 x.2.1.2.2.2.2.2.1 x.2.1.2.2.2.2.2.2 x.2.2.1 x.2.2.2.1 x.2.2.2.2.1 x.2.2.2.2.2.1 x.2.2.2.2.2.2.1).trans h)
end vm_Machine_Run
namespace vm_Machine_Result
/-! ### vm_Machine_Result: function 16 -/
noncomputable def sig : Sig := ⟨(.ptr 0 0), [.cells 132 0 (.cons (.ty (.ptr yprogram)) (.cons (.own 1) (.cons (.ty (.slice yI)) (.cons (.own 2) (.cons (.own 3) (.cons (.ty yI) (.ty yI))))))), .list 2 yI [], .list 2 yI [], .list 86 (.pair yI (.pair yI (.pair yI (.pair (.own 0) (.own 1))))) [4, 5], .many 2 yI, .many 3 yI], (.cons (.ty yI) (.ty .bool)), [.cells 132 0 (.cons (.ty (.ptr yprogram)) (.cons (.own 1) (.cons (.ty (.slice yI)) (.cons (.own 2) (.cons (.own 3) (.cons (.ty yI) (.ty yI))))))), .list 2 yI [], .list 2 yI [], .list 86 (.pair yI (.pair yI (.pair yI (.pair (.own 0) (.own 1))))) [4, 5], .many 2 yI, .many 3 yI]⟩
noncomputable def RF : RefitBy := noRefit
theorem RF_ok : RefitOk M 6 RF := noRefit_ok
noncomputable def C {α : Type} (K : Nat) : CallsBy α := noCalls
theorem C_ok {α : Type} (K : Nat) : CallsOk (α := α) M (C K) := noCalls_ok
noncomputable def CP {α : Type} (K : Nat) : CutBy α := (cpPut 1 (rpCut M bindC [.bool] [12] (C K) (eqBy M.P)) noCuts)
theorem CP_ok {α : Type} (K : Nat)  : CutsOk (α := α) M 6 (CP K) := (cpPut_ok (rpCut_ok (C_ok K) (eqBy_ok _) (by kernel_rfl)) noCuts_ok)
noncomputable def f (K : Nat) (a2 : Int) (a3 : Int) : Option (Int × Bool) := bindC (some (a2 != (1 : Int))) fun t => bif t then some ((0 : Int), false) else some (a3, true)
noncomputable def F (K : Nat) : sig.In → Option (Int × Bool) := fun x => f K x.2.1.2.2.2.2.2.1 x.2.1.2.2.2.2.2.2
noncomputable def cv : sig.In → (Int × Bool) → sig.Ou := fun x r => ((r.1, r.2), ((x.2.1.1, ((), (x.2.1.2.2.1, ((), ((), (x.2.1.2.2.2.2.2.1, x.2.1.2.2.2.2.2.2)))))), (x.2.2.1, (x.2.2.2.1, (x.2.2.2.2.1, (x.2.2.2.2.2.1, (x.2.2.2.2.2.2.1, ())))))))
noncomputable def LP {α : Type} (K : Nat) : LoopsBy α := noLoops
theorem eq (K : Nat) (a0 : Option Lprogram) (a1 : List Int) (a2 : Int) (a3 : Int) (a4 : List Int) (a5 : List Int) (a6 : List (Int × Int × Int × Nat × Nat)) (a7 : List (List Int)) (a8 : List (List Int)) : runF M sig (C K) (eqBy M.P) (LP K) RF (CP K) 20 Tryz.f16 (bodyOf Tryz.f16) ((), ((a0, ((), (a1, ((), ((), (a2, a3)))))), (a4, (a5, (a6, (a7, (a8, ()))))))) = (f K a2 a3).bind fun r => some (cv ((), ((a0, ((), (a1, ((), ((), (a2, a3)))))), (a4, (a5, (a6, (a7, (a8, ()))))))) r) := by
  unfold f
  try simp only [el]
  kernel_rfl
theorem rets (K : Nat) : ∀ x y, withCv (F K) cv x = some y → Rets M 16 sig x y := fun x y h => runF_rets (L := 20) (C_ok K) (eqBy_ok _) (by kernel_rfl) RF_ok (CP_ok K) (show LoopsOk M 6 (LP K) (loopsOf (bodyOf Tryz.f16)) from (show loopsOf (bodyOf Tryz.f16) = [] by kernel_rfl) ▸ noLoops_ok) (Nat.le_of_ble_eq_true rfl) Tryz.func16 (by kernel_rfl) ((eq K x.2.1.1 x.2.1.2.2.1 x.2.1.2.2.2.2.2.1 x.2.1.2.2.2.2.2.2 x.2.2.1 x.2.2.2.1 x.2.2.2.2.1 x.2.2.2.2.2.1 x.2.2.2.2.2.2.1).trans h)
end vm_Machine_Result
namespace avermenttop_runs
/-! ### avermenttop_runs: function 6 -/
noncomputable def sig : Sig := ⟨.unit, [], (.ty .bool), []⟩
noncomputable def RF : RefitBy := noRefit
theorem RF_ok : RefitOk M 0 RF := noRefit_ok
noncomputable def C {α : Type} (K : Nat) : CallsBy α := (entryD 33 avermentlaw04_Tiny.sig (avermentlaw04_Tiny.F K) avermentlaw04_Tiny.cv (entryD 8 avermentlaw04_To.sig (avermentlaw04_To.F K) avermentlaw04_To.cv (entryD 9 code_Write.sig (code_Write.F K) code_Write.cv (entryD 10 code_Read.sig (code_Read.F K) code_Read.cv (entryD 13 vm_Start.sig (vm_Start.F K) vm_Start.cv (entryD 34 vm_Machine_Run.sig (vm_Machine_Run.F K) vm_Machine_Run.cv (entryD 16 vm_Machine_Result.sig (vm_Machine_Result.F K) vm_Machine_Result.cv noCalls)))))))
theorem C_ok {α : Type} (K : Nat) : CallsOk (α := α) M (C K) := (entryD_ok (entryD_ok (entryD_ok (entryD_ok (entryD_ok (entryD_ok (entryD_ok noCalls_ok (by rfl) Tryz.func16 (by kernel_rfl) rfl (vm_Machine_Result.rets K)) (by rfl) Tryz.func34 (by kernel_rfl) rfl (vm_Machine_Run.rets K)) (by rfl) Tryz.func13 (by kernel_rfl) rfl (vm_Start.rets K)) (by rfl) Tryz.func10 (by kernel_rfl) rfl (code_Read.rets K)) (by rfl) Tryz.func9 (by kernel_rfl) rfl (code_Write.rets K)) (by rfl) Tryz.func8 (by kernel_rfl) rfl (avermentlaw04_To.rets K)) (by rfl) Tryz.func33 (by kernel_rfl) rfl (avermentlaw04_Tiny.rets K))
noncomputable def CP {α : Type} (K : Nat) : CutBy α := (cpPut 4 (rpCut M bindC [.bool] [38] (C K) (eqBy M.P)) (cpPut 8 (rpCut M bindC [.bool] [0] (C K) (eqBy M.P)) noCuts))
theorem CP_ok {α : Type} (K : Nat)  : CutsOk (α := α) M 0 (CP K) := (cpPut_ok (rpCut_ok (C_ok K) (eqBy_ok _) (by kernel_rfl)) (cpPut_ok (rpCut_ok (C_ok K) (eqBy_ok _) (by kernel_rfl)) noCuts_ok))
noncomputable def f (K : Nat) : Option (Bool) := (avermentlaw04_Tiny.f K).bind fun t => (avermentlaw04_To.f K t.1 t.2.1 t.2.2).bind fun t => (code_Write.f K t.1 t.2.1 t.2.2).bind fun t => (code_Read.f K t.1).bind fun t_1 => (vm_Start.f K t_1.1 t_1.2.1 t_1.2.2.1 (0 : Int) [] []).bind fun t_2 => bindC (bif bif true then !t.2.isNil else t.2.isNil then some true else bif bif true then !t_1.2.2.2.isNil else t_1.2.2.2.isNil then some true else some (bif true then !t_2.1.isNil else t_2.1.isNil)) fun t => bif t then some false else (vm_Machine_Run.f K (5 : Int) t_2.2.1 t_2.2.2.1 t_2.2.2.2.1 t_2.2.2.2.2.1 t_2.2.2.2.2.2.1 t_2.2.2.2.2.2.2.1 t_2.2.2.2.2.2.2.2.1 t_2.2.2.2.2.2.2.2.2.1 t_2.2.2.2.2.2.2.2.2.2).bind fun t => (vm_Machine_Result.f K t.2.2.1 t.2.2.2.1).bind fun t => bindC (bif t.1 == (5 : Int) then some t.2 else some false) fun t => some t
noncomputable def F (K : Nat) : sig.In → Option (Bool) := fun x => f K
noncomputable def cv : sig.In → Bool → sig.Ou := fun x r => (r, ())
noncomputable def LP {α : Type} (K : Nat) : LoopsBy α := noLoops
theorem eq (K : Nat) : runF M sig (C K) (eqBy M.P) (LP K) RF (CP K) 20 Tryz.f6 (bodyOf Tryz.f6) ((), ()) = (f K).bind fun r => some (cv ((), ()) r) := by
  unfold f
  try simp only [el]
  kernel_rfl
theorem rets (K : Nat) : ∀ x y, withCv (F K) cv x = some y → Rets M 6 sig x y := fun x y h => runF_rets (L := 20) (C_ok K) (eqBy_ok _) (by kernel_rfl) RF_ok (CP_ok K) (show LoopsOk M 0 (LP K) (loopsOf (bodyOf Tryz.f6)) from (show loopsOf (bodyOf Tryz.f6) = [] by kernel_rfl) ▸ noLoops_ok) (Nat.le_of_ble_eq_true rfl) Tryz.func6 (by kernel_rfl) ((eq K).trans h)
end avermenttop_runs
namespace avermentref04_Count
/-! ### avermentref04_Count: function 85 -/
noncomputable def sig : Sig := ⟨(.agg (.cons (.ty (.slice yI)) (.cons (.ty (.slice yFunc)) (.ty (.slice yImport))))), [], (.ty yI), []⟩
noncomputable def RF : RefitBy := noRefit
theorem RF_ok : RefitOk M 0 RF := noRefit_ok
noncomputable def C {α : Type} (K : Nat) : CallsBy α := noCalls
theorem C_ok {α : Type} (K : Nat) : CallsOk (α := α) M (C K) := noCalls_ok
noncomputable def CP {α : Type} (K : Nat) : CutBy α := noCuts
theorem CP_ok {α : Type} (K : Nat)  : CutsOk (α := α) M 0 (CP K) := noCuts_ok
noncomputable def f (K : Nat) (a1 : List LFunc) (a2 : List LImport) : Option (Int) := some (IntKind.i64.wrap ((↑a1.length : Int) + (↑a2.length : Int)))
noncomputable def F (K : Nat) : sig.In → Option (Int) := fun x => f K x.1.2.1 x.1.2.2
noncomputable def cv : sig.In → Int → sig.Ou := fun x r => (r, ())
noncomputable def LP {α : Type} (K : Nat) : LoopsBy α := noLoops
theorem eq (K : Nat) (a0 : List Int) (a1 : List LFunc) (a2 : List LImport) : runF M sig (C K) (eqBy M.P) (LP K) RF (CP K) 20 Tryz.f85 (bodyOf Tryz.f85) ((a0, (a1, a2)), ()) = (f K a1 a2).bind fun r => some (cv ((a0, (a1, a2)), ()) r) := by
  unfold f
  try simp only [el]
  kernel_rfl
theorem rets (K : Nat) : ∀ x y, withCv (F K) cv x = some y → Rets M 85 sig x y := fun x y h => runF_rets (L := 20) (C_ok K) (eqBy_ok _) (by kernel_rfl) RF_ok (CP_ok K) (show LoopsOk M 0 (LP K) (loopsOf (bodyOf Tryz.f85)) from (show loopsOf (bodyOf Tryz.f85) = [] by kernel_rfl) ▸ noLoops_ok) (Nat.le_of_ble_eq_true rfl) Tryz.func85 (by kernel_rfl) ((eq K x.1.1 x.1.2.1 x.1.2.2).trans h)
end avermentref04_Count
end
end Go.Proofs.YtdjkdmjdcdljmaaGreat.AR
