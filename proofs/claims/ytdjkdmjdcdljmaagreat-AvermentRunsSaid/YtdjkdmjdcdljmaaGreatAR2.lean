/- Written by a program of this session: what Go functions come to, as plain functions, each shown by the second machine. No condition. -/
import Derived.Test.YtdjkdmjdcdljmaaGreatAR1
namespace Go.Proofs.YtdjkdmjdcdljmaaGreat.AR
open Go.Proofs.YtdjkdmjdcdljmaaGreatX
noncomputable section
set_option linter.unusedVariables false
set_option linter.unusedSimpArgs false
set_option maxRecDepth 1000000
set_option maxHeartbeats 4000000
namespace avermentref04_Named
/-! ### avermentref04_Named: function 86 -/
noncomputable def sig : Sig := ⟨(.ty .str), [], (.ty .bool), []⟩
noncomputable def RF : RefitBy := noRefit
theorem RF_ok : RefitOk M 0 RF := noRefit_ok
noncomputable def C {α : Type} (K : Nat) : CallsBy α := noCalls
theorem C_ok {α : Type} (K : Nat) : CallsOk (α := α) M (C K) := noCalls_ok
noncomputable def CP {α : Type} (K : Nat) : CutBy α := (cpPut 1 (rpCut M bindC [.bool] [21] (C K) (eqBy M.P)) (cpPut 6 (rpCut M bindC [.bool] [49] (C K) (eqBy M.P)) noCuts))
theorem CP_ok {α : Type} (K : Nat)  : CutsOk (α := α) M 0 (CP K) := (cpPut_ok (rpCut_ok (C_ok K) (eqBy_ok _) (by kernel_rfl)) (cpPut_ok (rpCut_ok (C_ok K) (eqBy_ok _) (by kernel_rfl)) noCuts_ok))
noncomputable def l0.h : SSh := ⟨[0, 3], (.cons (.ty .str) (.ty yI)), []⟩
noncomputable def l0.x : SSh := ⟨[], .unit, []⟩
noncomputable def l0.r : SSh := ⟨[2], (.ty .bool), []⟩
noncomputable def l0.cx : l0.h.I → Unit → l0.x.I := fun x r => ((), ())
noncomputable def l0.cr : l0.h.I → Bool → l0.r.I := fun x r => (r, ())
noncomputable def l0.f (K : Nat) : Nat → ByteArray → Int → Option ((Unit) ⊕ (Bool))
  | 0, _, _ => none
  | k + 1, a0, a1 => bif decide (a1 < (↑a0.size : Int)) then bindC (bif decide ((0 : Int) ≤ a1) then bif a1.toNat.blt a0.size then bif decide ((↑(a0[a1.toNat]?.getD (0 : UInt8)).toNat : Int) < (97 : Int)) then bif decide ((0 : Int) ≤ a1) then bif a1.toNat.blt a0.size then bif decide ((↑(a0[a1.toNat]?.getD (0 : UInt8)).toNat : Int) < (48 : Int)) then some true else bif decide ((0 : Int) ≤ a1) then bif a1.toNat.blt a0.size then some (decide ((↑(a0[a1.toNat]?.getD (0 : UInt8)).toNat : Int) > (57 : Int))) else none else none else none else none else bif decide ((0 : Int) ≤ a1) then bif a1.toNat.blt a0.size then bif decide ((↑(a0[a1.toNat]?.getD (0 : UInt8)).toNat : Int) > (122 : Int)) then bif decide ((0 : Int) ≤ a1) then bif a1.toNat.blt a0.size then bif decide ((↑(a0[a1.toNat]?.getD (0 : UInt8)).toNat : Int) < (48 : Int)) then some true else bif decide ((0 : Int) ≤ a1) then bif a1.toNat.blt a0.size then some (decide ((↑(a0[a1.toNat]?.getD (0 : UInt8)).toNat : Int) > (57 : Int))) else none else none else none else none else some false else none else none else none else none) fun t => bif t then some (Sum.inr false) else l0.f K k a0 (IntKind.i64.wrap (a1 + (1 : Int))) else some (Sum.inl ())
noncomputable def l0.F (K : Nat) (k : Nat) : l0.h.I → Option ((Unit) ⊕ (Bool)) := fun x => l0.f K k x.1.1 x.1.2
noncomputable def l0.lp {α : Type} (K : Nat) : St → Kn α → Option α := lpXRD 0 50 0 l0.h l0.x l0.r (l0.F K K) l0.cx l0.cr
noncomputable def l0.c : Code := nthLoop Tryz.f86 0
noncomputable def l0.LP {α : Type} (K : Nat) : LoopsBy α := noLoops
theorem l0.eq (K : Nat) (k : Nat) (a0 : ByteArray) (a1 : Int) : exec M (C K) (eqBy M.P) (l0.LP K) RF (CP K) 20 l0.c (Kl 0 l0.h (withCv (l0.F K k) (smap l0.cx l0.cr)) (backXR 0 0 l0.x l0.r)) (l0.h.enc 50 ((a0, a1), ())) = (l0.f K (k + 1) a0 a1).bind fun r => some ((smap l0.cx l0.cr) ((a0, a1), ()) r) := by
  rw [l0.f]
  try simp only [el]
  kernel_rfl
theorem l0.leads (K : Nat) : ∀ k x y, withCv (l0.F K k) (smap l0.cx l0.cr) x = some y → Leads M 0 (.loop l0.c) (l0.h.enc 50 x) (outXR 50 0 l0.x l0.r y).1 (outXR 50 0 l0.x l0.r y).2 :=
  loopXR_sound (C_ok K) (eqBy_ok _) (by kernel_rfl) RF_ok (CP_ok K) (show LoopsOk M 0 (l0.LP K) (loopsOf l0.c) from (show loopsOf l0.c = [] by kernel_rfl) ▸ (noLoops_ok)) (Nat.le_of_ble_eq_true rfl) (Nat.le_of_ble_eq_true rfl) (Nat.le_of_ble_eq_true rfl) (fun x => rfl) (fun k x => l0.eq K k x.1.1 x.1.2)
theorem l0.lp_ok {α : Type} (K : Nat) : LoopOk (α := α) M 0 (nthLoop Tryz.f86 0) (l0.lp K) := lpXRD_ok (Nat.le_of_ble_eq_true rfl) (l0.leads K K)
noncomputable def f (K : Nat) (a0 : ByteArray) : Option (Bool) := bindC (bif decide ((↑a0.size : Int) < (1 : Int)) then some true else bif decide ((↑a0.size : Int) > (12 : Int)) then some true else bif Nat.blt (0 : Nat) a0.size then bif decide ((↑(a0[(0 : Nat)]?.getD (0 : UInt8)).toNat : Int) < (97 : Int)) then some true else bif Nat.blt (0 : Nat) a0.size then some (decide ((↑(a0[(0 : Nat)]?.getD (0 : UInt8)).toNat : Int) > (122 : Int))) else none else none) fun t => bif t then some false else (l0.f K K a0 (0 : Int)).bind fun t => Sum.elim (fun t => some true) (fun t => some t) t
noncomputable def F (K : Nat) : sig.In → Option (Bool) := fun x => f K x.1
noncomputable def cv : sig.In → Bool → sig.Ou := fun x r => (r, ())
noncomputable def LP {α : Type} (K : Nat) : LoopsBy α := (lpPut 4 (l0.lp K) noLoops)
theorem eq (K : Nat) (a0 : ByteArray) : runF M sig (C K) (eqBy M.P) (LP K) RF (CP K) 20 Tryz.f86 (bodyOf Tryz.f86) (a0, ()) = (f K a0).bind fun r => some (cv (a0, ()) r) := by
  unfold f
  try simp only [el]
  kernel_rfl
theorem rets (K : Nat) : ∀ x y, withCv (F K) cv x = some y → Rets M 86 sig x y := fun x y h => runF_rets (L := 20) (C_ok K) (eqBy_ok _) (by kernel_rfl) RF_ok (CP_ok K) (show LoopsOk M 0 (LP K) (loopsOf (bodyOf Tryz.f86)) from (show loopsOf (bodyOf Tryz.f86) = [nthLoop Tryz.f86 0] by kernel_rfl) ▸ (loopsOk_put (key := 4) (by kernel_rfl) (l0.lp_ok K) noLoops_ok (by kernel_rfl))) (Nat.le_of_ble_eq_true rfl) Tryz.func86 (by kernel_rfl) ((eq K x.1).trans h)
end avermentref04_Named
namespace avermentref04_Name
/-! ### avermentref04_Name: function 130 -/
noncomputable def sig : Sig := ⟨(.cons (.agg (.cons (.ty (.slice yI)) (.cons (.ty (.slice yFunc)) (.ty (.slice yImport))))) (.ty yI)), [], (.ty .str), []⟩
noncomputable def RF : RefitBy := noRefit
theorem RF_ok : RefitOk M 0 RF := noRefit_ok
noncomputable def C {α : Type} (K : Nat) : CallsBy α := (entryD 85 avermentref04_Count.sig (avermentref04_Count.F K) avermentref04_Count.cv noCalls)
theorem C_ok {α : Type} (K : Nat) : CallsOk (α := α) M (C K) := (entryD_ok noCalls_ok (by rfl) Tryz.func85 (by kernel_rfl) rfl (avermentref04_Count.rets K))
noncomputable def CP {α : Type} (K : Nat) : CutBy α := (cpPut 1 (rpCut M bindC [.bool] [13] (C K) (eqBy M.P)) (cpPut 3 (rpCut M bindC [.bool] [30] (C K) (eqBy M.P)) noCuts))
theorem CP_ok {α : Type} (K : Nat)  : CutsOk (α := α) M 0 (CP K) := (cpPut_ok (rpCut_ok (C_ok K) (eqBy_ok _) (by kernel_rfl)) (cpPut_ok (rpCut_ok (C_ok K) (eqBy_ok _) (by kernel_rfl)) noCuts_ok))
noncomputable def f (K : Nat) (a1 : List LFunc) (a2 : List LImport) (a3 : Int) : Option (ByteArray) := bindC (bif decide (a3 ≥ (0 : Int)) then some (decide (a3 < (↑a1.length : Int))) else some false) fun t => bif t then bif decide ((0 : Int) ≤ a3) && true then a1[a3.toNat]?.bind fun t => some t.1 else none else bindC (bif decide (a3 ≥ (↑a1.length : Int)) then (avermentref04_Count.f K a1 a2).bind fun t => some (decide (a3 < t)) else some false) fun t => bif t then bif decide ((0 : Int) ≤ IntKind.i64.wrap (a3 - (↑a1.length : Int))) && true then a2[(IntKind.i64.wrap (a3 - (↑a1.length : Int))).toNat]?.bind fun t => some t.1 else none else some (ByteArray.mk #[])
noncomputable def F (K : Nat) : sig.In → Option (ByteArray) := fun x => f K x.1.1.2.1 x.1.1.2.2 x.1.2
noncomputable def cv : sig.In → ByteArray → sig.Ou := fun x r => (r, ())
noncomputable def LP {α : Type} (K : Nat) : LoopsBy α := noLoops
theorem eq (K : Nat) (a0 : List Int) (a1 : List LFunc) (a2 : List LImport) (a3 : Int) : runF M sig (C K) (eqBy M.P) (LP K) RF (CP K) 20 Tryz.f130 (bodyOf Tryz.f130) (((a0, (a1, a2)), a3), ()) = (f K a1 a2 a3).bind fun r => some (cv (((a0, (a1, a2)), a3), ()) r) := by
  unfold f
  try simp only [el]
  kernel_rfl
theorem rets (K : Nat) : ∀ x y, withCv (F K) cv x = some y → Rets M 130 sig x y := fun x y h => runF_rets (L := 20) (C_ok K) (eqBy_ok _) (by kernel_rfl) RF_ok (CP_ok K) (show LoopsOk M 0 (LP K) (loopsOf (bodyOf Tryz.f130)) from (show loopsOf (bodyOf Tryz.f130) = [] by kernel_rfl) ▸ noLoops_ok) (Nat.le_of_ble_eq_true rfl) Tryz.func130 (by kernel_rfl) ((eq K x.1.1.1 x.1.1.2.1 x.1.1.2.2 x.1.2).trans h)
end avermentref04_Name
namespace avermentref04_Find
/-! ### avermentref04_Find: function 87 -/
noncomputable def sig : Sig := ⟨(.cons (.agg (.cons (.ty (.slice yI)) (.cons (.ty (.slice yFunc)) (.ty (.slice yImport))))) (.ty .str)), [], (.ty yI), []⟩
noncomputable def RF : RefitBy := noRefit
theorem RF_ok : RefitOk M 0 RF := noRefit_ok
noncomputable def C {α : Type} (K : Nat) : CallsBy α := (entryD 85 avermentref04_Count.sig (avermentref04_Count.F K) avermentref04_Count.cv (entryD 130 avermentref04_Name.sig (avermentref04_Name.F K) avermentref04_Name.cv noCalls))
theorem C_ok {α : Type} (K : Nat) : CallsOk (α := α) M (C K) := (entryD_ok (entryD_ok noCalls_ok (by rfl) Tryz.func130 (by kernel_rfl) rfl (avermentref04_Name.rets K)) (by rfl) Tryz.func85 (by kernel_rfl) rfl (avermentref04_Count.rets K))
noncomputable def CP {α : Type} (K : Nat) : CutBy α := noCuts
theorem CP_ok {α : Type} (K : Nat)  : CutsOk (α := α) M 0 (CP K) := noCuts_ok
noncomputable def l0.h : SSh := ⟨[1, 2, 5], (.cons (.ty .str) (.cons (.ptr 0 0) (.ty yI))), [.cells 26 0 (.cons (.ty (.slice yI)) (.cons (.ty (.slice yFunc)) (.ty (.slice yImport))))]⟩
noncomputable def l0.x : SSh := ⟨[], .unit, []⟩
noncomputable def l0.r : SSh := ⟨[4], (.ty yI), []⟩
noncomputable def l0.cx : l0.h.I → Unit → l0.x.I := fun x r => ((), ())
noncomputable def l0.cr : l0.h.I → Int → l0.r.I := fun x r => (r, ())
noncomputable def l0.f (K : Nat) : Nat → ByteArray → Int → List LFunc → List LImport → Option ((Unit) ⊕ (Int))
  | 0, _, _, _, _ => none
  | k + 1, a0, a1, a3, a4 => (avermentref04_Count.f K a3 a4).bind fun t => bif decide (a1 < t) then (avermentref04_Name.f K a3 a4 a1).bind fun t => bif t.toList == a0.toList then some (Sum.inr a1) else l0.f K k a0 (IntKind.i64.wrap (a1 + (1 : Int))) a3 a4 else some (Sum.inl ())
noncomputable def l0.F (K : Nat) (k : Nat) : l0.h.I → Option ((Unit) ⊕ (Int)) := fun x => l0.f K k x.1.1 x.1.2.2 x.2.1.2.1 x.2.1.2.2
noncomputable def l0.lp {α : Type} (K : Nat) : St → Kn α → Option α := lpXRD 0 18 0 l0.h l0.x l0.r (l0.F K K) l0.cx l0.cr
noncomputable def l0.c : Code := nthLoop Tryz.f87 0
noncomputable def l0.LP {α : Type} (K : Nat) : LoopsBy α := noLoops
theorem l0.eq (K : Nat) (k : Nat) (a0 : ByteArray) (a1 : Int) (a2 : List Int) (a3 : List LFunc) (a4 : List LImport) : exec M (C K) (eqBy M.P) (l0.LP K) RF (CP K) 20 l0.c (Kl 0 l0.h (withCv (l0.F K k) (smap l0.cx l0.cr)) (backXR 0 0 l0.x l0.r)) (l0.h.enc 18 ((a0, ((), a1)), ((a2, (a3, a4)), ()))) = (l0.f K (k + 1) a0 a1 a3 a4).bind fun r => some ((smap l0.cx l0.cr) ((a0, ((), a1)), ((a2, (a3, a4)), ())) r) := by
  rw [l0.f]
  try simp only [el]
  kernel_rfl
theorem l0.leads (K : Nat) : ∀ k x y, withCv (l0.F K k) (smap l0.cx l0.cr) x = some y → Leads M 0 (.loop l0.c) (l0.h.enc 18 x) (outXR 18 0 l0.x l0.r y).1 (outXR 18 0 l0.x l0.r y).2 :=
  loopXR_sound (C_ok K) (eqBy_ok _) (by kernel_rfl) RF_ok (CP_ok K) (show LoopsOk M 0 (l0.LP K) (loopsOf l0.c) from (show loopsOf l0.c = [] by kernel_rfl) ▸ (noLoops_ok)) (Nat.le_of_ble_eq_true rfl) (Nat.le_of_ble_eq_true rfl) (Nat.le_of_ble_eq_true rfl) (fun x => rfl) (fun k x => l0.eq K k x.1.1 x.1.2.2 x.2.1.1 x.2.1.2.1 x.2.1.2.2)
theorem l0.lp_ok {α : Type} (K : Nat) : LoopOk (α := α) M 0 (nthLoop Tryz.f87 0) (l0.lp K) := lpXRD_ok (Nat.le_of_ble_eq_true rfl) (l0.leads K K)
noncomputable def f (K : Nat) (a1 : List LFunc) (a2 : List LImport) (a3 : ByteArray) : Option (Int) := (l0.f K K a3 (0 : Int) a1 a2).bind fun t => Sum.elim (fun t => some (-1 : Int)) (fun t => some t) t
noncomputable def F (K : Nat) : sig.In → Option (Int) := fun x => f K x.1.1.2.1 x.1.1.2.2 x.1.2
noncomputable def cv : sig.In → Int → sig.Ou := fun x r => (r, ())
noncomputable def LP {α : Type} (K : Nat) : LoopsBy α := (lpPut 2 (l0.lp K) noLoops)
theorem eq (K : Nat) (a0 : List Int) (a1 : List LFunc) (a2 : List LImport) (a3 : ByteArray) : runF M sig (C K) (eqBy M.P) (LP K) RF (CP K) 20 Tryz.f87 (bodyOf Tryz.f87) (((a0, (a1, a2)), a3), ()) = (f K a1 a2 a3).bind fun r => some (cv (((a0, (a1, a2)), a3), ()) r) := by
  unfold f
  try simp only [el]
  kernel_rfl
theorem rets (K : Nat) : ∀ x y, withCv (F K) cv x = some y → Rets M 87 sig x y := fun x y h => runF_rets (L := 20) (C_ok K) (eqBy_ok _) (by kernel_rfl) RF_ok (CP_ok K) (show LoopsOk M 0 (LP K) (loopsOf (bodyOf Tryz.f87)) from (show loopsOf (bodyOf Tryz.f87) = [nthLoop Tryz.f87 0] by kernel_rfl) ▸ (loopsOk_put (key := 2) (by kernel_rfl) (l0.lp_ok K) noLoops_ok (by kernel_rfl))) (Nat.le_of_ble_eq_true rfl) Tryz.func87 (by kernel_rfl) ((eq K x.1.1.1 x.1.1.2.1 x.1.1.2.2 x.1.2).trans h)
end avermentref04_Find
namespace avermentref04_UsesD
/-! ### avermentref04_UsesD: function 131 -/
noncomputable def sig : Sig := ⟨(.ty yI), [], (.ty .bool), []⟩
noncomputable def RF : RefitBy := noRefit
theorem RF_ok : RefitOk M 0 RF := noRefit_ok
noncomputable def C {α : Type} (K : Nat) : CallsBy α := noCalls
theorem C_ok {α : Type} (K : Nat) : CallsOk (α := α) M (C K) := noCalls_ok
noncomputable def CP {α : Type} (K : Nat) : CutBy α := (cpPut 1 (rpCut M bindC [.bool] [2] (C K) (eqBy M.P)) noCuts)
theorem CP_ok {α : Type} (K : Nat)  : CutsOk (α := α) M 0 (CP K) := (cpPut_ok (rpCut_ok (C_ok K) (eqBy_ok _) (by kernel_rfl)) noCuts_ok)
noncomputable def f (K : Nat) (a0 : Int) : Option (Bool) := bindC (bif decide (a0 ≥ (1 : Int)) then bif decide (a0 ≤ (13 : Int)) then some true else bif a0 == (15 : Int) then some true else some (a0 == (17 : Int)) else bif a0 == (15 : Int) then some true else some (a0 == (17 : Int))) fun t => some t
noncomputable def F (K : Nat) : sig.In → Option (Bool) := fun x => f K x.1
noncomputable def cv : sig.In → Bool → sig.Ou := fun x r => (r, ())
noncomputable def LP {α : Type} (K : Nat) : LoopsBy α := noLoops
theorem eq (K : Nat) (a0 : Int) : runF M sig (C K) (eqBy M.P) (LP K) RF (CP K) 20 Tryz.f131 (bodyOf Tryz.f131) (a0, ()) = (f K a0).bind fun r => some (cv (a0, ()) r) := by
  unfold f
  try simp only [el]
  kernel_rfl
theorem rets (K : Nat) : ∀ x y, withCv (F K) cv x = some y → Rets M 131 sig x y := fun x y h => runF_rets (L := 20) (C_ok K) (eqBy_ok _) (by kernel_rfl) RF_ok (CP_ok K) (show LoopsOk M 0 (LP K) (loopsOf (bodyOf Tryz.f131)) from (show loopsOf (bodyOf Tryz.f131) = [] by kernel_rfl) ▸ noLoops_ok) (Nat.le_of_ble_eq_true rfl) Tryz.func131 (by kernel_rfl) ((eq K x.1).trans h)
end avermentref04_UsesD
namespace avermentref04_UsesA
/-! ### avermentref04_UsesA: function 132 -/
noncomputable def sig : Sig := ⟨(.ty yI), [], (.ty .bool), []⟩
noncomputable def RF : RefitBy := noRefit
theorem RF_ok : RefitOk M 0 RF := noRefit_ok
noncomputable def C {α : Type} (K : Nat) : CallsBy α := noCalls
theorem C_ok {α : Type} (K : Nat) : CallsOk (α := α) M (C K) := noCalls_ok
noncomputable def CP {α : Type} (K : Nat) : CutBy α := (cpPut 1 (rpCut M bindC [.bool] [2] (C K) (eqBy M.P)) noCuts)
theorem CP_ok {α : Type} (K : Nat)  : CutsOk (α := α) M 0 (CP K) := (cpPut_ok (rpCut_ok (C_ok K) (eqBy_ok _) (by kernel_rfl)) noCuts_ok)
noncomputable def f (K : Nat) (a0 : Int) : Option (Bool) := bindC (bif decide (a0 ≥ (2 : Int)) then bif decide (a0 ≤ (12 : Int)) then some true else bif a0 == (14 : Int) then some true else some (a0 == (16 : Int)) else bif a0 == (14 : Int) then some true else some (a0 == (16 : Int))) fun t => some t
noncomputable def F (K : Nat) : sig.In → Option (Bool) := fun x => f K x.1
noncomputable def cv : sig.In → Bool → sig.Ou := fun x r => (r, ())
noncomputable def LP {α : Type} (K : Nat) : LoopsBy α := noLoops
theorem eq (K : Nat) (a0 : Int) : runF M sig (C K) (eqBy M.P) (LP K) RF (CP K) 20 Tryz.f132 (bodyOf Tryz.f132) (a0, ()) = (f K a0).bind fun r => some (cv (a0, ()) r) := by
  unfold f
  try simp only [el]
  kernel_rfl
theorem rets (K : Nat) : ∀ x y, withCv (F K) cv x = some y → Rets M 132 sig x y := fun x y h => runF_rets (L := 20) (C_ok K) (eqBy_ok _) (by kernel_rfl) RF_ok (CP_ok K) (show LoopsOk M 0 (LP K) (loopsOf (bodyOf Tryz.f132)) from (show loopsOf (bodyOf Tryz.f132) = [] by kernel_rfl) ▸ noLoops_ok) (Nat.le_of_ble_eq_true rfl) Tryz.func132 (by kernel_rfl) ((eq K x.1).trans h)
end avermentref04_UsesA
namespace avermentref04_UsesB
/-! ### avermentref04_UsesB: function 133 -/
noncomputable def sig : Sig := ⟨(.ty yI), [], (.ty .bool), []⟩
noncomputable def RF : RefitBy := noRefit
theorem RF_ok : RefitOk M 0 RF := noRefit_ok
noncomputable def C {α : Type} (K : Nat) : CallsBy α := noCalls
theorem C_ok {α : Type} (K : Nat) : CallsOk (α := α) M (C K) := noCalls_ok
noncomputable def CP {α : Type} (K : Nat) : CutBy α := (cpPut 1 (rpCut M bindC [.bool] [2] (C K) (eqBy M.P)) noCuts)
theorem CP_ok {α : Type} (K : Nat)  : CutsOk (α := α) M 0 (CP K) := (cpPut_ok (rpCut_ok (C_ok K) (eqBy_ok _) (by kernel_rfl)) noCuts_ok)
noncomputable def f (K : Nat) (a0 : Int) : Option (Bool) := bindC (bif decide (a0 ≥ (4 : Int)) then some (decide (a0 ≤ (12 : Int))) else some false) fun t => some t
noncomputable def F (K : Nat) : sig.In → Option (Bool) := fun x => f K x.1
noncomputable def cv : sig.In → Bool → sig.Ou := fun x r => (r, ())
noncomputable def LP {α : Type} (K : Nat) : LoopsBy α := noLoops
theorem eq (K : Nat) (a0 : Int) : runF M sig (C K) (eqBy M.P) (LP K) RF (CP K) 20 Tryz.f133 (bodyOf Tryz.f133) (a0, ()) = (f K a0).bind fun r => some (cv (a0, ()) r) := by
  unfold f
  try simp only [el]
  kernel_rfl
theorem rets (K : Nat) : ∀ x y, withCv (F K) cv x = some y → Rets M 133 sig x y := fun x y h => runF_rets (L := 20) (C_ok K) (eqBy_ok _) (by kernel_rfl) RF_ok (CP_ok K) (show LoopsOk M 0 (LP K) (loopsOf (bodyOf Tryz.f133)) from (show loopsOf (bodyOf Tryz.f133) = [] by kernel_rfl) ▸ noLoops_ok) (Nat.le_of_ble_eq_true rfl) Tryz.func133 (by kernel_rfl) ((eq K x.1).trans h)
end avermentref04_UsesB
namespace avermentref04_below_has
/-! ### avermentref04_below_has: function 134 -/
noncomputable def sig : Sig := ⟨(.cons (.ty yI) (.ty yI)), [], (.ty .bool), []⟩
noncomputable def RF : RefitBy := noRefit
theorem RF_ok : RefitOk M 0 RF := noRefit_ok
noncomputable def C {α : Type} (K : Nat) : CallsBy α := noCalls
theorem C_ok {α : Type} (K : Nat) : CallsOk (α := α) M (C K) := noCalls_ok
noncomputable def CP {α : Type} (K : Nat) : CutBy α := (cpPut 1 (rpCut M bindC [.bool] [4] (C K) (eqBy M.P)) noCuts)
theorem CP_ok {α : Type} (K : Nat)  : CutsOk (α := α) M 0 (CP K) := (cpPut_ok (rpCut_ok (C_ok K) (eqBy_ok _) (by kernel_rfl)) noCuts_ok)
noncomputable def f (K : Nat) (a0 : Int) (a1 : Int) : Option (Bool) := bindC (bif decide (a1 ≥ (0 : Int)) then some (decide (a1 < a0)) else some false) fun t => some t
noncomputable def F (K : Nat) : sig.In → Option (Bool) := fun x => f K x.1.1 x.1.2
noncomputable def cv : sig.In → Bool → sig.Ou := fun x r => (r, ())
noncomputable def LP {α : Type} (K : Nat) : LoopsBy α := noLoops
theorem eq (K : Nat) (a0 : Int) (a1 : Int) : runF M sig (C K) (eqBy M.P) (LP K) RF (CP K) 20 Tryz.f134 (bodyOf Tryz.f134) ((a0, a1), ()) = (f K a0 a1).bind fun r => some (cv ((a0, a1), ()) r) := by
  unfold f
  try simp only [el]
  kernel_rfl
theorem rets (K : Nat) : ∀ x y, withCv (F K) cv x = some y → Rets M 134 sig x y := fun x y h => runF_rets (L := 20) (C_ok K) (eqBy_ok _) (by kernel_rfl) RF_ok (CP_ok K) (show LoopsOk M 0 (LP K) (loopsOf (bodyOf Tryz.f134)) from (show loopsOf (bodyOf Tryz.f134) = [] by kernel_rfl) ▸ noLoops_ok) (Nat.le_of_ble_eq_true rfl) Tryz.func134 (by kernel_rfl) ((eq K x.1.1 x.1.2).trans h)
end avermentref04_below_has
namespace avermentref04_Arity
/-! ### avermentref04_Arity: function 135 -/
noncomputable def sig : Sig := ⟨(.cons (.agg (.cons (.ty (.slice yI)) (.cons (.ty (.slice yFunc)) (.ty (.slice yImport))))) (.ty yI)), [], (.ty yI), []⟩
noncomputable def RF : RefitBy := noRefit
theorem RF_ok : RefitOk M 0 RF := noRefit_ok
noncomputable def C {α : Type} (K : Nat) : CallsBy α := (entryD 85 avermentref04_Count.sig (avermentref04_Count.F K) avermentref04_Count.cv noCalls)
theorem C_ok {α : Type} (K : Nat) : CallsOk (α := α) M (C K) := (entryD_ok noCalls_ok (by rfl) Tryz.func85 (by kernel_rfl) rfl (avermentref04_Count.rets K))
noncomputable def CP {α : Type} (K : Nat) : CutBy α := (cpPut 1 (rpCut M bindC [.bool] [13] (C K) (eqBy M.P)) (cpPut 3 (rpCut M bindC [.bool] [30] (C K) (eqBy M.P)) noCuts))
theorem CP_ok {α : Type} (K : Nat)  : CutsOk (α := α) M 0 (CP K) := (cpPut_ok (rpCut_ok (C_ok K) (eqBy_ok _) (by kernel_rfl)) (cpPut_ok (rpCut_ok (C_ok K) (eqBy_ok _) (by kernel_rfl)) noCuts_ok))
noncomputable def f (K : Nat) (a1 : List LFunc) (a2 : List LImport) (a3 : Int) : Option (Int) := bindC (bif decide (a3 ≥ (0 : Int)) then some (decide (a3 < (↑a1.length : Int))) else some false) fun t => bif t then bif decide ((0 : Int) ≤ a3) && true then a1[a3.toNat]?.bind fun t => some t.2.1 else none else bindC (bif decide (a3 ≥ (↑a1.length : Int)) then (avermentref04_Count.f K a1 a2).bind fun t => some (decide (a3 < t)) else some false) fun t => bif t then bif decide ((0 : Int) ≤ IntKind.i64.wrap (a3 - (↑a1.length : Int))) && true then a2[(IntKind.i64.wrap (a3 - (↑a1.length : Int))).toNat]?.bind fun t => some t.2 else none else some (-1 : Int)
noncomputable def F (K : Nat) : sig.In → Option (Int) := fun x => f K x.1.1.2.1 x.1.1.2.2 x.1.2
noncomputable def cv : sig.In → Int → sig.Ou := fun x r => (r, ())
noncomputable def LP {α : Type} (K : Nat) : LoopsBy α := noLoops
theorem eq (K : Nat) (a0 : List Int) (a1 : List LFunc) (a2 : List LImport) (a3 : Int) : runF M sig (C K) (eqBy M.P) (LP K) RF (CP K) 20 Tryz.f135 (bodyOf Tryz.f135) (((a0, (a1, a2)), a3), ()) = (f K a1 a2 a3).bind fun r => some (cv (((a0, (a1, a2)), a3), ()) r) := by
  unfold f
  try simp only [el]
  kernel_rfl
theorem rets (K : Nat) : ∀ x y, withCv (F K) cv x = some y → Rets M 135 sig x y := fun x y h => runF_rets (L := 20) (C_ok K) (eqBy_ok _) (by kernel_rfl) RF_ok (CP_ok K) (show LoopsOk M 0 (LP K) (loopsOf (bodyOf Tryz.f135)) from (show loopsOf (bodyOf Tryz.f135) = [] by kernel_rfl) ▸ noLoops_ok) (Nat.le_of_ble_eq_true rfl) Tryz.func135 (by kernel_rfl) ((eq K x.1.1.1 x.1.1.2.1 x.1.1.2.2 x.1.2).trans h)
end avermentref04_Arity
namespace avermentref04_insn
/-! ### avermentref04_insn: function 88 -/
noncomputable def sig : Sig := ⟨(.cons (.agg (.cons (.ty (.slice yI)) (.cons (.ty (.slice yFunc)) (.ty (.slice yImport))))) (.cons (.agg (.cons (.ty .str) (.cons (.ty yI) (.cons (.ty yI) (.ty (.slice yBlock)))))) (.agg (.cons (.ty yI) (.cons (.ty yI) (.cons (.ty yI) (.cons (.ty yI) (.cons (.ty yI) (.ty (.slice yI)))))))))), [], (.ty yI), []⟩
noncomputable def RF : RefitBy := noRefit
theorem RF_ok : RefitOk M 0 RF := noRefit_ok
noncomputable def C {α : Type} (K : Nat) : CallsBy α := (entryD 131 avermentref04_UsesD.sig (avermentref04_UsesD.F K) avermentref04_UsesD.cv (entryD 132 avermentref04_UsesA.sig (avermentref04_UsesA.F K) avermentref04_UsesA.cv (entryD 133 avermentref04_UsesB.sig (avermentref04_UsesB.F K) avermentref04_UsesB.cv (entryD 134 avermentref04_below_has.sig (avermentref04_below_has.F K) avermentref04_below_has.cv (entryD 85 avermentref04_Count.sig (avermentref04_Count.F K) avermentref04_Count.cv (entryD 135 avermentref04_Arity.sig (avermentref04_Arity.F K) avermentref04_Arity.cv noCalls))))))
theorem C_ok {α : Type} (K : Nat) : CallsOk (α := α) M (C K) := (entryD_ok (entryD_ok (entryD_ok (entryD_ok (entryD_ok (entryD_ok noCalls_ok (by rfl) Tryz.func135 (by kernel_rfl) rfl (avermentref04_Arity.rets K)) (by rfl) Tryz.func85 (by kernel_rfl) rfl (avermentref04_Count.rets K)) (by rfl) Tryz.func134 (by kernel_rfl) rfl (avermentref04_below_has.rets K)) (by rfl) Tryz.func133 (by kernel_rfl) rfl (avermentref04_UsesB.rets K)) (by rfl) Tryz.func132 (by kernel_rfl) rfl (avermentref04_UsesA.rets K)) (by rfl) Tryz.func131 (by kernel_rfl) rfl (avermentref04_UsesD.rets K))
noncomputable def CP {α : Type} (K : Nat) : CutBy α := (cpPut 1 (rpCut M bindC [.bool] [17] (C K) (eqBy M.P)) (cpPut 3 (rpCut M bindC [.bool] [7] (C K) (eqBy M.P)) (cpPut 4 (rpCut M bindC [.bool] [86] (C K) (eqBy M.P)) (cpPut 7 (rpCut M bindC [.bool] [122] (C K) (eqBy M.P)) (cpPut 9 (rpCut M bindC [.bool] [143] (C K) (eqBy M.P)) (cpPut 13 (rpCut M bindC [.bool] [156] (C K) (eqBy M.P)) noCuts))))))
theorem CP_ok {α : Type} (K : Nat)  : CutsOk (α := α) M 0 (CP K) := (cpPut_ok (rpCut_ok (C_ok K) (eqBy_ok _) (by kernel_rfl)) (cpPut_ok (rpCut_ok (C_ok K) (eqBy_ok _) (by kernel_rfl)) (cpPut_ok (rpCut_ok (C_ok K) (eqBy_ok _) (by kernel_rfl)) (cpPut_ok (rpCut_ok (C_ok K) (eqBy_ok _) (by kernel_rfl)) (cpPut_ok (rpCut_ok (C_ok K) (eqBy_ok _) (by kernel_rfl)) (cpPut_ok (rpCut_ok (C_ok K) (eqBy_ok _) (by kernel_rfl)) noCuts_ok))))))
noncomputable def l0.h : SSh := ⟨[5, 8, 9], (.cons (.ptr 0 0) (.cons (.ty yI) (.ty yI))), [.cells 176 0 (.cons (.ty yI) (.cons (.ty yI) (.cons (.ty yI) (.cons (.ty yI) (.cons (.ty yI) (.ty (.slice yI)))))))]⟩
noncomputable def l0.x : SSh := ⟨[], .unit, []⟩
noncomputable def l0.r : SSh := ⟨[6], (.ty yI), []⟩
noncomputable def l0.cx : l0.h.I → Unit → l0.x.I := fun x r => ((), ())
noncomputable def l0.cr : l0.h.I → Int → l0.r.I := fun x r => (r, ())
noncomputable def l0.f (K : Nat) : Nat → Int → Int → List Int → Option ((Unit) ⊕ (Int))
  | 0, _, _, _ => none
  | k + 1, a0, a1, a7 => bif decide (a1 < (↑a7.length : Int)) then bif decide ((0 : Int) ≤ a1) && true then a7[a1.toNat]?.bind fun t => (avermentref04_below_has.f K a0 t).bind fun t => bif !t then some (Sum.inr (9 : Int)) else l0.f K k a0 (IntKind.i64.wrap (a1 + (1 : Int))) a7 else none else some (Sum.inl ())
noncomputable def l0.F (K : Nat) (k : Nat) : l0.h.I → Option ((Unit) ⊕ (Int)) := fun x => l0.f K k x.1.2.1 x.1.2.2 x.2.1.2.2.2.2.2
noncomputable def l0.lp {α : Type} (K : Nat) : St → Kn α → Option α := lpXRD 0 180 0 l0.h l0.x l0.r (l0.F K K) l0.cx l0.cr
noncomputable def l0.c : Code := nthLoop Tryz.f88 0
noncomputable def l0.LP {α : Type} (K : Nat) : LoopsBy α := noLoops
theorem l0.eq (K : Nat) (k : Nat) (a0 : Int) (a1 : Int) (a2 : Int) (a3 : Int) (a4 : Int) (a5 : Int) (a6 : Int) (a7 : List Int) : exec M (C K) (eqBy M.P) (l0.LP K) RF (CP K) 20 l0.c (Kl 0 l0.h (withCv (l0.F K k) (smap l0.cx l0.cr)) (backXR 0 0 l0.x l0.r)) (l0.h.enc 180 (((), (a0, a1)), ((a2, (a3, (a4, (a5, (a6, a7))))), ()))) = (l0.f K (k + 1) a0 a1 a7).bind fun r => some ((smap l0.cx l0.cr) (((), (a0, a1)), ((a2, (a3, (a4, (a5, (a6, a7))))), ())) r) := by
  rw [l0.f]
  try simp only [el]
  kernel_rfl
theorem l0.leads (K : Nat) : ∀ k x y, withCv (l0.F K k) (smap l0.cx l0.cr) x = some y → Leads M 0 (.loop l0.c) (l0.h.enc 180 x) (outXR 180 0 l0.x l0.r y).1 (outXR 180 0 l0.x l0.r y).2 :=
  loopXR_sound (C_ok K) (eqBy_ok _) (by kernel_rfl) RF_ok (CP_ok K) (show LoopsOk M 0 (l0.LP K) (loopsOf l0.c) from (show loopsOf l0.c = [] by kernel_rfl) ▸ (noLoops_ok)) (Nat.le_of_ble_eq_true rfl) (Nat.le_of_ble_eq_true rfl) (Nat.le_of_ble_eq_true rfl) (fun x => rfl) (fun k x => l0.eq K k x.1.2.1 x.1.2.2 x.2.1.1 x.2.1.2.1 x.2.1.2.2.1 x.2.1.2.2.2.1 x.2.1.2.2.2.2.1 x.2.1.2.2.2.2.2)
theorem l0.lp_ok {α : Type} (K : Nat) : LoopOk (α := α) M 0 (nthLoop Tryz.f88 0) (l0.lp K) := lpXRD_ok (Nat.le_of_ble_eq_true rfl) (l0.leads K K)
noncomputable def f (K : Nat) (a0 : List Int) (a1 : List LFunc) (a2 : List LImport) (a5 : Int) (a7 : Int) (a8 : Int) (a9 : Int) (a10 : Int) (a11 : Int) (a12 : List Int) : Option (Int) := bindC (bif decide (a7 < (1 : Int)) then some true else some (decide (a7 > (17 : Int)))) fun t => bif t then some (5 : Int) else bindC (bif a7 == (13 : Int) then some true else bif a7 == (14 : Int) then some true else some (a7 == (17 : Int))) fun t => bindC ((avermentref04_UsesD.f K a7).bind fun t_1 => bif !t_1 then bif a8 != (0 : Int) then some true else (avermentref04_UsesA.f K a7).bind fun t_2 => bif !t_2 then bif a9 != (0 : Int) then some true else (avermentref04_UsesB.f K a7).bind fun t_3 => bif !t_3 then bif !t then bif a10 != (0 : Int) then some true else bif a7 != (1 : Int) then bif a11 != (0 : Int) then some true else bif a7 != (17 : Int) then some (decide ((↑a12.length : Int) > (0 : Int))) else some false else bif a7 != (17 : Int) then some (decide ((↑a12.length : Int) > (0 : Int))) else some false else bif a7 != (1 : Int) then bif a11 != (0 : Int) then some true else bif a7 != (17 : Int) then some (decide ((↑a12.length : Int) > (0 : Int))) else some false else bif a7 != (17 : Int) then some (decide ((↑a12.length : Int) > (0 : Int))) else some false else bif a7 != (1 : Int) then bif a11 != (0 : Int) then some true else bif a7 != (17 : Int) then some (decide ((↑a12.length : Int) > (0 : Int))) else some false else bif a7 != (17 : Int) then some (decide ((↑a12.length : Int) > (0 : Int))) else some false else (avermentref04_UsesB.f K a7).bind fun t_3 => bif !t_3 then bif !t then bif a10 != (0 : Int) then some true else bif a7 != (1 : Int) then bif a11 != (0 : Int) then some true else bif a7 != (17 : Int) then some (decide ((↑a12.length : Int) > (0 : Int))) else some false else bif a7 != (17 : Int) then some (decide ((↑a12.length : Int) > (0 : Int))) else some false else bif a7 != (1 : Int) then bif a11 != (0 : Int) then some true else bif a7 != (17 : Int) then some (decide ((↑a12.length : Int) > (0 : Int))) else some false else bif a7 != (17 : Int) then some (decide ((↑a12.length : Int) > (0 : Int))) else some false else bif a7 != (1 : Int) then bif a11 != (0 : Int) then some true else bif a7 != (17 : Int) then some (decide ((↑a12.length : Int) > (0 : Int))) else some false else bif a7 != (17 : Int) then some (decide ((↑a12.length : Int) > (0 : Int))) else some false else (avermentref04_UsesA.f K a7).bind fun t_2 => bif !t_2 then bif a9 != (0 : Int) then some true else (avermentref04_UsesB.f K a7).bind fun t_3 => bif !t_3 then bif !t then bif a10 != (0 : Int) then some true else bif a7 != (1 : Int) then bif a11 != (0 : Int) then some true else bif a7 != (17 : Int) then some (decide ((↑a12.length : Int) > (0 : Int))) else some false else bif a7 != (17 : Int) then some (decide ((↑a12.length : Int) > (0 : Int))) else some false else bif a7 != (1 : Int) then bif a11 != (0 : Int) then some true else bif a7 != (17 : Int) then some (decide ((↑a12.length : Int) > (0 : Int))) else some false else bif a7 != (17 : Int) then some (decide ((↑a12.length : Int) > (0 : Int))) else some false else bif a7 != (1 : Int) then bif a11 != (0 : Int) then some true else bif a7 != (17 : Int) then some (decide ((↑a12.length : Int) > (0 : Int))) else some false else bif a7 != (17 : Int) then some (decide ((↑a12.length : Int) > (0 : Int))) else some false else (avermentref04_UsesB.f K a7).bind fun t_3 => bif !t_3 then bif !t then bif a10 != (0 : Int) then some true else bif a7 != (1 : Int) then bif a11 != (0 : Int) then some true else bif a7 != (17 : Int) then some (decide ((↑a12.length : Int) > (0 : Int))) else some false else bif a7 != (17 : Int) then some (decide ((↑a12.length : Int) > (0 : Int))) else some false else bif a7 != (1 : Int) then bif a11 != (0 : Int) then some true else bif a7 != (17 : Int) then some (decide ((↑a12.length : Int) > (0 : Int))) else some false else bif a7 != (17 : Int) then some (decide ((↑a12.length : Int) > (0 : Int))) else some false else bif a7 != (1 : Int) then bif a11 != (0 : Int) then some true else bif a7 != (17 : Int) then some (decide ((↑a12.length : Int) > (0 : Int))) else some false else bif a7 != (17 : Int) then some (decide ((↑a12.length : Int) > (0 : Int))) else some false) fun t => bif t then some (3 : Int) else bindC ((avermentref04_UsesD.f K a7).bind fun t => bif t then (avermentref04_below_has.f K a5 a8).bind fun t => bif !t then some true else (avermentref04_UsesA.f K a7).bind fun t => bif t then (avermentref04_below_has.f K a5 a9).bind fun t => bif !t then some true else (avermentref04_UsesB.f K a7).bind fun t => bif t then (avermentref04_below_has.f K a5 a10).bind fun t => some !t else some false else (avermentref04_UsesB.f K a7).bind fun t => bif t then (avermentref04_below_has.f K a5 a10).bind fun t => some !t else some false else (avermentref04_UsesA.f K a7).bind fun t => bif t then (avermentref04_below_has.f K a5 a9).bind fun t => bif !t then some true else (avermentref04_UsesB.f K a7).bind fun t => bif t then (avermentref04_below_has.f K a5 a10).bind fun t => some !t else some false else (avermentref04_UsesB.f K a7).bind fun t => bif t then (avermentref04_below_has.f K a5 a10).bind fun t => some !t else some false) fun t => bif t then some (9 : Int) else bindC (bif a7 == (13 : Int) then bif decide (a10 < (0 : Int)) then some true else some (decide (a10 ≥ (↑a0.length : Int))) else bif a7 == (14 : Int) then bif decide (a10 < (0 : Int)) then some true else some (decide (a10 ≥ (↑a0.length : Int))) else some false) fun t => bif t then some (4 : Int) else bif a7 != (17 : Int) then some (0 : Int) else bindC (bif decide (a10 < (0 : Int)) then some true else (avermentref04_Count.f K a1 a2).bind fun t => some (decide (a10 ≥ t))) fun t => bif t then some (7 : Int) else (avermentref04_Arity.f K a1 a2 a10).bind fun t => bif (↑a12.length : Int) != t then some (10 : Int) else (l0.f K K a5 (0 : Int) a12).bind fun t => Sum.elim (fun t => some (0 : Int)) (fun t => some t) t
noncomputable def F (K : Nat) : sig.In → Option (Int) := fun x => f K x.1.1.1 x.1.1.2.1 x.1.1.2.2 x.1.2.1.2.2.1 x.1.2.2.1 x.1.2.2.2.1 x.1.2.2.2.2.1 x.1.2.2.2.2.2.1 x.1.2.2.2.2.2.2.1 x.1.2.2.2.2.2.2.2
noncomputable def cv : sig.In → Int → sig.Ou := fun x r => (r, ())
noncomputable def LP {α : Type} (K : Nat) : LoopsBy α := (lpPut 18 (l0.lp K) noLoops)
theorem eq (K : Nat) (a0 : List Int) (a1 : List LFunc) (a2 : List LImport) (a3 : ByteArray) (a4 : Int) (a5 : Int) (a6 : List LBlock) (a7 : Int) (a8 : Int) (a9 : Int) (a10 : Int) (a11 : Int) (a12 : List Int) : runF M sig (C K) (eqBy M.P) (LP K) RF (CP K) 20 Tryz.f88 (bodyOf Tryz.f88) (((a0, (a1, a2)), ((a3, (a4, (a5, a6))), (a7, (a8, (a9, (a10, (a11, a12))))))), ()) = (f K a0 a1 a2 a5 a7 a8 a9 a10 a11 a12).bind fun r => some (cv (((a0, (a1, a2)), ((a3, (a4, (a5, a6))), (a7, (a8, (a9, (a10, (a11, a12))))))), ()) r) := by
  unfold f
  try simp only [el]
  kernel_rfl
theorem rets (K : Nat) : ∀ x y, withCv (F K) cv x = some y → Rets M 88 sig x y := fun x y h => runF_rets (L := 20) (C_ok K) (eqBy_ok _) (by kernel_rfl) RF_ok (CP_ok K) (show LoopsOk M 0 (LP K) (loopsOf (bodyOf Tryz.f88)) from (show loopsOf (bodyOf Tryz.f88) = [nthLoop Tryz.f88 0] by kernel_rfl) ▸ (loopsOk_put (key := 18) (by kernel_rfl) (l0.lp_ok K) noLoops_ok (by kernel_rfl))) (Nat.le_of_ble_eq_true rfl) Tryz.func88 (by kernel_rfl) ((eq K x.1.1.1 x.1.1.2.1 x.1.1.2.2 x.1.2.1.1 x.1.2.1.2.1 x.1.2.1.2.2.1 x.1.2.1.2.2.2 x.1.2.2.1 x.1.2.2.2.1 x.1.2.2.2.2.1 x.1.2.2.2.2.2.1 x.1.2.2.2.2.2.2.1 x.1.2.2.2.2.2.2.2).trans h)
end avermentref04_insn
namespace avermentref04_end
/-! ### avermentref04_end: function 89 -/
noncomputable def sig : Sig := ⟨(.cons (.agg (.cons (.ty .str) (.cons (.ty yI) (.cons (.ty yI) (.ty (.slice yBlock)))))) (.agg (.cons (.ty yI) (.cons (.ty yI) (.cons (.ty yI) (.ty yI)))))), [], (.ty yI), []⟩
noncomputable def RF : RefitBy := noRefit
theorem RF_ok : RefitOk M 0 RF := noRefit_ok
noncomputable def C {α : Type} (K : Nat) : CallsBy α := noCalls
theorem C_ok {α : Type} (K : Nat) : CallsOk (α := α) M (C K) := noCalls_ok
noncomputable def CP {α : Type} (K : Nat) : CutBy α := (cpPut 1 (rpCut M bindC [.bool] [12] (C K) (eqBy M.P)) (cpPut 3 (rpCut M bindC [.bool] [40] (C K) (eqBy M.P)) (cpPut 5 (rpCut M bindC [.bool] [55] (C K) (eqBy M.P)) (cpPut 7 (rpCut M bindC [.bool] [89] (C K) (eqBy M.P)) noCuts))))
theorem CP_ok {α : Type} (K : Nat)  : CutsOk (α := α) M 0 (CP K) := (cpPut_ok (rpCut_ok (C_ok K) (eqBy_ok _) (by kernel_rfl)) (cpPut_ok (rpCut_ok (C_ok K) (eqBy_ok _) (by kernel_rfl)) (cpPut_ok (rpCut_ok (C_ok K) (eqBy_ok _) (by kernel_rfl)) (cpPut_ok (rpCut_ok (C_ok K) (eqBy_ok _) (by kernel_rfl)) noCuts_ok))))
noncomputable def f (K : Nat) (a2 : Int) (a3 : List LBlock) (a4 : Int) (a5 : Int) (a6 : Int) (a7 : Int) : Option (Int) := bindC (bif decide (a4 < (1 : Int)) then some true else some (decide (a4 > (3 : Int)))) fun t => bif t then some (5 : Int) else bindC (bif a4 == (1 : Int) then bif a5 != (0 : Int) then some true else bif a4 == (3 : Int) then bif a6 != (0 : Int) then some true else bif a4 != (2 : Int) then some (a7 != (0 : Int)) else some false else bif a4 != (2 : Int) then some (a7 != (0 : Int)) else some false else bif a4 == (3 : Int) then bif a6 != (0 : Int) then some true else bif a4 != (2 : Int) then some (a7 != (0 : Int)) else some false else bif a4 != (2 : Int) then some (a7 != (0 : Int)) else some false) fun t => bif t then some (3 : Int) else bindC (bif a4 != (1 : Int) then bif decide (a5 < (0 : Int)) then some true else some (decide (a5 ≥ a2)) else some false) fun t => bif t then some (9 : Int) else bindC (bif a4 != (3 : Int) then bif decide (a6 < (0 : Int)) then some true else bif decide (a6 ≥ (↑a3.length : Int)) then some true else bif a4 == (2 : Int) then bif decide (a7 < (0 : Int)) then some true else some (decide (a7 ≥ (↑a3.length : Int))) else some false else bif a4 == (2 : Int) then bif decide (a7 < (0 : Int)) then some true else some (decide (a7 ≥ (↑a3.length : Int))) else some false) fun t => bif t then some (8 : Int) else some (0 : Int)
noncomputable def F (K : Nat) : sig.In → Option (Int) := fun x => f K x.1.1.2.2.1 x.1.1.2.2.2 x.1.2.1 x.1.2.2.1 x.1.2.2.2.1 x.1.2.2.2.2
noncomputable def cv : sig.In → Int → sig.Ou := fun x r => (r, ())
noncomputable def LP {α : Type} (K : Nat) : LoopsBy α := noLoops
theorem eq (K : Nat) (a0 : ByteArray) (a1 : Int) (a2 : Int) (a3 : List LBlock) (a4 : Int) (a5 : Int) (a6 : Int) (a7 : Int) : runF M sig (C K) (eqBy M.P) (LP K) RF (CP K) 20 Tryz.f89 (bodyOf Tryz.f89) (((a0, (a1, (a2, a3))), (a4, (a5, (a6, a7)))), ()) = (f K a2 a3 a4 a5 a6 a7).bind fun r => some (cv (((a0, (a1, (a2, a3))), (a4, (a5, (a6, a7)))), ()) r) := by
  unfold f
  try simp only [el]
  kernel_rfl
theorem rets (K : Nat) : ∀ x y, withCv (F K) cv x = some y → Rets M 89 sig x y := fun x y h => runF_rets (L := 20) (C_ok K) (eqBy_ok _) (by kernel_rfl) RF_ok (CP_ok K) (show LoopsOk M 0 (LP K) (loopsOf (bodyOf Tryz.f89)) from (show loopsOf (bodyOf Tryz.f89) = [] by kernel_rfl) ▸ noLoops_ok) (Nat.le_of_ble_eq_true rfl) Tryz.func89 (by kernel_rfl) ((eq K x.1.1.1 x.1.1.2.1 x.1.1.2.2.1 x.1.1.2.2.2 x.1.2.1 x.1.2.2.1 x.1.2.2.2.1 x.1.2.2.2.2).trans h)
end avermentref04_end
namespace avermentref04_Check
/-! ### avermentref04_Check: function 35 -/
noncomputable def sig : Sig := ⟨(.agg (.cons (.ty (.slice yI)) (.cons (.ty (.slice yFunc)) (.ty (.slice yImport))))), [], (.cons (.ty yI) (.ty (.slice yI))), []⟩
noncomputable def RF : RefitBy := noRefit
theorem RF_ok : RefitOk M 0 RF := noRefit_ok
noncomputable def C {α : Type} (K : Nat) : CallsBy α := (entryD 85 avermentref04_Count.sig (avermentref04_Count.F K) avermentref04_Count.cv (entryD 86 avermentref04_Named.sig (avermentref04_Named.F K) avermentref04_Named.cv (entryD 87 avermentref04_Find.sig (avermentref04_Find.F K) avermentref04_Find.cv (entryD 88 avermentref04_insn.sig (avermentref04_insn.F K) avermentref04_insn.cv (entryD 89 avermentref04_end.sig (avermentref04_end.F K) avermentref04_end.cv noCalls)))))
theorem C_ok {α : Type} (K : Nat) : CallsOk (α := α) M (C K) := (entryD_ok (entryD_ok (entryD_ok (entryD_ok (entryD_ok noCalls_ok (by rfl) Tryz.func89 (by kernel_rfl) rfl (avermentref04_end.rets K)) (by rfl) Tryz.func88 (by kernel_rfl) rfl (avermentref04_insn.rets K)) (by rfl) Tryz.func87 (by kernel_rfl) rfl (avermentref04_Find.rets K)) (by rfl) Tryz.func86 (by kernel_rfl) rfl (avermentref04_Named.rets K)) (by rfl) Tryz.func85 (by kernel_rfl) rfl (avermentref04_Count.rets K))
noncomputable def CP {α : Type} (K : Nat) : CutBy α := (cpPut 1 (rpCut M bindC [.bool] [22] (C K) (eqBy M.P)) (cpPut 11 (rpCut M bindC [.bool] [56] (C K) (eqBy M.P)) (cpPut 13 (rpCut M bindC [.bool] [73] (C K) (eqBy M.P)) (cpPut 15 (rpCut M bindC [.bool] [85] (C K) (eqBy M.P)) (cpPut 39 (rpCut M bindC [.bool] [179] (C K) (eqBy M.P)) (cpPut 43 (rpCut M bindC [.bool] [197] (C K) (eqBy M.P)) noCuts))))))
theorem CP_ok {α : Type} (K : Nat)  : CutsOk (α := α) M 0 (CP K) := (cpPut_ok (rpCut_ok (C_ok K) (eqBy_ok _) (by kernel_rfl)) (cpPut_ok (rpCut_ok (C_ok K) (eqBy_ok _) (by kernel_rfl)) (cpPut_ok (rpCut_ok (C_ok K) (eqBy_ok _) (by kernel_rfl)) (cpPut_ok (rpCut_ok (C_ok K) (eqBy_ok _) (by kernel_rfl)) (cpPut_ok (rpCut_ok (C_ok K) (eqBy_ok _) (by kernel_rfl)) (cpPut_ok (rpCut_ok (C_ok K) (eqBy_ok _) (by kernel_rfl)) noCuts_ok))))))
noncomputable def l3.h : SSh := ⟨[1, 11], (.cons (.ptr 0 0) (.ty yI)), [.cells 26 0 (.cons (.ty (.slice yI)) (.cons (.ty (.slice yFunc)) (.ty (.slice yImport))))]⟩
noncomputable def l3.x : SSh := ⟨[], .unit, []⟩
noncomputable def l3.r : SSh := ⟨[2, 3], (.cons (.ty yI) (.own 0)), [.list 3 yI []]⟩
noncomputable def l3.cx : l3.h.I → Unit → l3.x.I := fun x r => ((), ())
noncomputable def l3.cr : l3.h.I → (Int × List Int) → l3.r.I := fun x r => ((r.1, ()), (r.2, ()))
noncomputable def l3.f (K : Nat) : Nat → Int → List LFunc → List LImport → Option ((Unit) ⊕ (Int × List Int))
  | 0, _, _, _ => none
  | k + 1, a0, a2, a3 => bif decide (a0 < (↑a3.length : Int)) then bif decide ((0 : Int) ≤ a0) && true then a3[a0.toNat]?.bind fun t => (avermentref04_Named.f K t.1).bind fun t_1 => bif !t_1 then some (Sum.inr ((6 : Int), [IntKind.i64.wrap ((↑a2.length : Int) + a0)])) else bindC (bif decide (a0 > (0 : Int)) then bif decide ((0 : Int) ≤ IntKind.i64.wrap (a0 - (1 : Int))) && true then a3[(IntKind.i64.wrap (a0 - (1 : Int))).toNat]?.bind fun t_2 => some (Op.bytesLess (ByteArray.toList t.1) (ByteArray.toList t_2.1) || ByteArray.toList t.1 == ByteArray.toList t_2.1) else none else some false) fun t_2 => bif t_2 then some (Sum.inr ((3 : Int), [IntKind.i64.wrap ((↑a2.length : Int) + a0)])) else (avermentref04_Find.f K a2 a3 t.1).bind fun t_3 => bif decide (t_3 < (↑a2.length : Int)) then some (Sum.inr ((7 : Int), [IntKind.i64.wrap ((↑a2.length : Int) + a0)])) else bindC (bif decide (t.2 < (0 : Int)) then some true else some (decide (t.2 > (4 : Int)))) fun t => bif t then some (Sum.inr ((10 : Int), [IntKind.i64.wrap ((↑a2.length : Int) + a0)])) else l3.f K k (IntKind.i64.wrap (a0 + (1 : Int))) a2 a3 else none else some (Sum.inl ())
noncomputable def l3.F (K : Nat) (k : Nat) : l3.h.I → Option ((Unit) ⊕ (Int × List Int)) := fun x => l3.f K k x.1.2 x.2.1.2.1 x.2.1.2.2
noncomputable def l3.lp {α : Type} (K : Nat) : St → Kn α → Option α := lpXRD 0 199 6 l3.h l3.x l3.r (l3.F K K) l3.cx l3.cr
noncomputable def l3.c : Code := nthLoop Tryz.f35 3
noncomputable def l3.LP {α : Type} (K : Nat) : LoopsBy α := noLoops
theorem l3.eq (K : Nat) (k : Nat) (a0 : Int) (a1 : List Int) (a2 : List LFunc) (a3 : List LImport) : exec M (C K) (eqBy M.P) (l3.LP K) RF (CP K) 20 l3.c (Kl 0 l3.h (withCv (l3.F K k) (smap l3.cx l3.cr)) (backXR 0 6 l3.x l3.r)) (l3.h.enc 199 (((), a0), ((a1, (a2, a3)), ()))) = (l3.f K (k + 1) a0 a2 a3).bind fun r => some ((smap l3.cx l3.cr) (((), a0), ((a1, (a2, a3)), ())) r) := by
  rw [l3.f]
  try simp only [el]
  kernel_rfl
theorem l3.leads (K : Nat) : ∀ k x y, withCv (l3.F K k) (smap l3.cx l3.cr) x = some y → Leads M 0 (.loop l3.c) (l3.h.enc 199 x) (outXR 199 6 l3.x l3.r y).1 (outXR 199 6 l3.x l3.r y).2 :=
  loopXR_sound (C_ok K) (eqBy_ok _) (by kernel_rfl) RF_ok (CP_ok K) (show LoopsOk M 0 (l3.LP K) (loopsOf l3.c) from (show loopsOf l3.c = [] by kernel_rfl) ▸ (noLoops_ok)) (Nat.le_of_ble_eq_true rfl) (Nat.le_of_ble_eq_true rfl) (Nat.le_of_ble_eq_true rfl) (fun x => rfl) (fun k x => l3.eq K k x.1.2 x.2.1.1 x.2.1.2.1 x.2.1.2.2)
theorem l3.lp_ok {α : Type} (K : Nat) : LoopOk (α := α) M 0 (nthLoop Tryz.f35 3) (l3.lp K) := lpXRD_ok (Nat.le_of_ble_eq_true rfl) (l3.leads K K)
noncomputable def l2.h : SSh := ⟨[1, 4, 5, 6, 7, 8], (.cons (.ptr 0 0) (.cons (.ty yI) (.cons (.ptr 1 0) (.cons (.ty yI) (.cons (.ty (.slice yInsn)) (.ty yI)))))), [.cells 26 0 (.cons (.ty (.slice yI)) (.cons (.ty (.slice yFunc)) (.ty (.slice yImport)))), .cells 107 0 (.cons (.ty .str) (.cons (.ty yI) (.cons (.ty yI) (.ty (.slice yBlock)))))]⟩
noncomputable def l2.x : SSh := ⟨[1, 4, 5, 6, 7], (.cons (.ptr 0 0) (.cons (.ty yI) (.cons (.ptr 1 0) (.cons (.ty yI) (.ty (.slice yInsn)))))), [.cells 26 0 (.cons (.ty (.slice yI)) (.cons (.ty (.slice yFunc)) (.ty (.slice yImport)))), .cells 107 0 (.cons (.ty .str) (.cons (.ty yI) (.cons (.ty yI) (.ty (.slice yBlock)))))]⟩
noncomputable def l2.r : SSh := ⟨[2, 3], (.cons (.ty yI) (.own 0)), [.list 3 yI []]⟩
noncomputable def l2.cx : l2.h.I → Unit → l2.x.I := fun x r => (((), (x.1.2.1, ((), (x.1.2.2.2.1, x.1.2.2.2.2.1)))), ((x.2.1.1, (x.2.1.2.1, x.2.1.2.2)), ((x.2.2.1.1, (x.2.2.1.2.1, (x.2.2.1.2.2.1, x.2.2.1.2.2.2))), ())))
noncomputable def l2.cr : l2.h.I → (Int × List Int) → l2.r.I := fun x r => ((r.1, ()), (r.2, ()))
noncomputable def l2.f (K : Nat) : Nat → Int → Int → List LInsn → Int → List Int → List LFunc → List LImport → Int → Option ((Unit) ⊕ (Int × List Int))
  | 0, _, _, _, _, _, _, _, _ => none
  | k + 1, a0, a1, a2, a3, a4, a5, a6, a9 => bif decide (a3 < (↑a2.length : Int)) then bif decide ((0 : Int) ≤ a3) && true then a2[a3.toNat]?.bind fun t => (avermentref04_insn.f K a4 a5 a6 a9 t.1 t.2.1 t.2.2.1 t.2.2.2.1 t.2.2.2.2.1 t.2.2.2.2.2).bind fun t => bif t != (0 : Int) then some (Sum.inr (t, [a0, a1, a3])) else l2.f K k a0 a1 a2 (IntKind.i64.wrap (a3 + (1 : Int))) a4 a5 a6 a9 else none else some (Sum.inl ())
noncomputable def l2.F (K : Nat) (k : Nat) : l2.h.I → Option ((Unit) ⊕ (Int × List Int)) := fun x => l2.f K k x.1.2.1 x.1.2.2.2.1 x.1.2.2.2.2.1 x.1.2.2.2.2.2 x.2.1.1 x.2.1.2.1 x.2.1.2.2 x.2.2.1.2.2.1
noncomputable def l2.lp {α : Type} (K : Nat) : St → Kn α → Option α := lpXRD 0 199 4 l2.h l2.x l2.r (l2.F K K) l2.cx l2.cr
noncomputable def l2.c : Code := nthLoop Tryz.f35 2
noncomputable def l2.LP {α : Type} (K : Nat) : LoopsBy α := noLoops
theorem l2.eq (K : Nat) (k : Nat) (a0 : Int) (a1 : Int) (a2 : List LInsn) (a3 : Int) (a4 : List Int) (a5 : List LFunc) (a6 : List LImport) (a7 : ByteArray) (a8 : Int) (a9 : Int) (a10 : List LBlock) : exec M (C K) (eqBy M.P) (l2.LP K) RF (CP K) 20 l2.c (Kl 0 l2.h (withCv (l2.F K k) (smap l2.cx l2.cr)) (backXR 0 4 l2.x l2.r)) (l2.h.enc 199 (((), (a0, ((), (a1, (a2, a3))))), ((a4, (a5, a6)), ((a7, (a8, (a9, a10))), ())))) = (l2.f K (k + 1) a0 a1 a2 a3 a4 a5 a6 a9).bind fun r => some ((smap l2.cx l2.cr) (((), (a0, ((), (a1, (a2, a3))))), ((a4, (a5, a6)), ((a7, (a8, (a9, a10))), ()))) r) := by
  rw [l2.f]
  try simp only [el]
  kernel_rfl
theorem l2.leads (K : Nat) : ∀ k x y, withCv (l2.F K k) (smap l2.cx l2.cr) x = some y → Leads M 0 (.loop l2.c) (l2.h.enc 199 x) (outXR 199 4 l2.x l2.r y).1 (outXR 199 4 l2.x l2.r y).2 :=
  loopXR_sound (C_ok K) (eqBy_ok _) (by kernel_rfl) RF_ok (CP_ok K) (show LoopsOk M 0 (l2.LP K) (loopsOf l2.c) from (show loopsOf l2.c = [] by kernel_rfl) ▸ (noLoops_ok)) (Nat.le_of_ble_eq_true rfl) (Nat.le_of_ble_eq_true rfl) (Nat.le_of_ble_eq_true rfl) (fun x => rfl) (fun k x => l2.eq K k x.1.2.1 x.1.2.2.2.1 x.1.2.2.2.2.1 x.1.2.2.2.2.2 x.2.1.1 x.2.1.2.1 x.2.1.2.2 x.2.2.1.1 x.2.2.1.2.1 x.2.2.1.2.2.1 x.2.2.1.2.2.2)
theorem l2.lp_ok {α : Type} (K : Nat) : LoopOk (α := α) M 0 (nthLoop Tryz.f35 2) (l2.lp K) := lpXRD_ok (Nat.le_of_ble_eq_true rfl) (l2.leads K K)
noncomputable def l1.h : SSh := ⟨[1, 4, 5, 6], (.cons (.ptr 0 0) (.cons (.ty yI) (.cons (.ptr 1 0) (.ty yI)))), [.cells 26 0 (.cons (.ty (.slice yI)) (.cons (.ty (.slice yFunc)) (.ty (.slice yImport)))), .cells 107 0 (.cons (.ty .str) (.cons (.ty yI) (.cons (.ty yI) (.ty (.slice yBlock)))))]⟩
noncomputable def l1.x : SSh := ⟨[1, 4], (.cons (.ptr 0 0) (.ty yI)), [.cells 26 0 (.cons (.ty (.slice yI)) (.cons (.ty (.slice yFunc)) (.ty (.slice yImport))))]⟩
noncomputable def l1.r : SSh := ⟨[2, 3], (.cons (.ty yI) (.own 0)), [.list 3 yI []]⟩
noncomputable def l1.cx : l1.h.I → Unit → l1.x.I := fun x r => (((), x.1.2.1), ((x.2.1.1, (x.2.1.2.1, x.2.1.2.2)), ()))
noncomputable def l1.cr : l1.h.I → (Int × List Int) → l1.r.I := fun x r => ((r.1, ()), (r.2, ()))
noncomputable def l1.f (K : Nat) : Nat → Int → Int → List Int → List LFunc → List LImport → Int → List LBlock → Option ((Unit) ⊕ (Int × List Int))
  | 0, _, _, _, _, _, _, _ => none
  | k + 1, a0, a1, a2, a3, a4, a7, a8 => bif decide (a1 < (↑a8.length : Int)) then bif decide ((0 : Int) ≤ a1) && true then a8[a1.toNat]?.bind fun t => bif decide ((↑(List.length t.1) : Int) > (12 : Int)) then some (Sum.inr ((11 : Int), [a0, a1])) else (l2.f K K a0 a1 t.1 (0 : Int) a2 a3 a4 a7).bind fun t_1 => Sum.elim (fun t_2 => bif decide ((0 : Int) ≤ a1) && true then a8[a1.toNat]?.bind fun t_3 => (avermentref04_end.f K a7 a8 t_3.2.1 t_3.2.2.1 t_3.2.2.2.1 t_3.2.2.2.2).bind fun t_4 => bif t_4 != (0 : Int) then some (Sum.inr (t_4, [a0, a1, (↑(List.length t.1) : Int)])) else l1.f K k a0 (IntKind.i64.wrap (a1 + (1 : Int))) a2 a3 a4 a7 a8 else none) (fun t => some (Sum.inr (t.1, t.2))) t_1 else none else some (Sum.inl ())
noncomputable def l1.F (K : Nat) (k : Nat) : l1.h.I → Option ((Unit) ⊕ (Int × List Int)) := fun x => l1.f K k x.1.2.1 x.1.2.2.2 x.2.1.1 x.2.1.2.1 x.2.1.2.2 x.2.2.1.2.2.1 x.2.2.1.2.2.2
noncomputable def l1.lp {α : Type} (K : Nat) : St → Kn α → Option α := lpXRD 0 199 2 l1.h l1.x l1.r (l1.F K K) l1.cx l1.cr
noncomputable def l1.c : Code := nthLoop Tryz.f35 1
noncomputable def l1.LP {α : Type} (K : Nat) : LoopsBy α := (lpPut 24 (l2.lp K) noLoops)
theorem l1.eq (K : Nat) (k : Nat) (a0 : Int) (a1 : Int) (a2 : List Int) (a3 : List LFunc) (a4 : List LImport) (a5 : ByteArray) (a6 : Int) (a7 : Int) (a8 : List LBlock) : exec M (C K) (eqBy M.P) (l1.LP K) RF (CP K) 20 l1.c (Kl 0 l1.h (withCv (l1.F K k) (smap l1.cx l1.cr)) (backXR 0 2 l1.x l1.r)) (l1.h.enc 199 (((), (a0, ((), a1))), ((a2, (a3, a4)), ((a5, (a6, (a7, a8))), ())))) = (l1.f K (k + 1) a0 a1 a2 a3 a4 a7 a8).bind fun r => some ((smap l1.cx l1.cr) (((), (a0, ((), a1))), ((a2, (a3, a4)), ((a5, (a6, (a7, a8))), ()))) r) := by
  rw [l1.f]
  try simp only [el]
  kernel_rfl
theorem l1.leads (K : Nat) : ∀ k x y, withCv (l1.F K k) (smap l1.cx l1.cr) x = some y → Leads M 0 (.loop l1.c) (l1.h.enc 199 x) (outXR 199 2 l1.x l1.r y).1 (outXR 199 2 l1.x l1.r y).2 :=
  loopXR_sound (C_ok K) (eqBy_ok _) (by kernel_rfl) RF_ok (CP_ok K) (show LoopsOk M 0 (l1.LP K) (loopsOf l1.c) from (show loopsOf l1.c = [nthLoop Tryz.f35 2] by kernel_rfl) ▸ ((loopsOk_put (key := 24) (by kernel_rfl) (l2.lp_ok K) noLoops_ok (by kernel_rfl)))) (Nat.le_of_ble_eq_true rfl) (Nat.le_of_ble_eq_true rfl) (Nat.le_of_ble_eq_true rfl) (fun x => rfl) (fun k x => l1.eq K k x.1.2.1 x.1.2.2.2 x.2.1.1 x.2.1.2.1 x.2.1.2.2 x.2.2.1.1 x.2.2.1.2.1 x.2.2.1.2.2.1 x.2.2.1.2.2.2)
theorem l1.lp_ok {α : Type} (K : Nat) : LoopOk (α := α) M 0 (nthLoop Tryz.f35 1) (l1.lp K) := lpXRD_ok (Nat.le_of_ble_eq_true rfl) (l1.leads K K)
noncomputable def l0.h : SSh := ⟨[1, 4], (.cons (.ptr 0 0) (.ty yI)), [.cells 26 0 (.cons (.ty (.slice yI)) (.cons (.ty (.slice yFunc)) (.ty (.slice yImport))))]⟩
noncomputable def l0.x : SSh := ⟨[1], (.ptr 0 0), [.cells 26 0 (.cons (.ty (.slice yI)) (.cons (.ty (.slice yFunc)) (.ty (.slice yImport))))]⟩
noncomputable def l0.r : SSh := ⟨[2, 3], (.cons (.ty yI) (.own 0)), [.list 3 yI []]⟩
noncomputable def l0.cx : l0.h.I → Unit → l0.x.I := fun x r => ((), ((x.2.1.1, (x.2.1.2.1, x.2.1.2.2)), ()))
noncomputable def l0.cr : l0.h.I → (Int × List Int) → l0.r.I := fun x r => ((r.1, ()), (r.2, ()))
noncomputable def l0.f (K : Nat) : Nat → Int → List Int → List LFunc → List LImport → Option ((Unit) ⊕ (Int × List Int))
  | 0, _, _, _, _ => none
  | k + 1, a0, a1, a2, a3 => bif decide (a0 < (↑a2.length : Int)) then bif decide ((0 : Int) ≤ a0) && true then a2[a0.toNat]?.bind fun t => (avermentref04_Named.f K t.1).bind fun t_1 => bif !t_1 then some (Sum.inr ((6 : Int), [a0])) else (avermentref04_Find.f K a2 a3 t.1).bind fun t_2 => bif decide (t_2 < a0) then some (Sum.inr ((7 : Int), [a0])) else bindC (bif decide (t.2.1 < (0 : Int)) then some true else some (decide (t.2.1 > (4 : Int)))) fun t_3 => bif t_3 then some (Sum.inr ((10 : Int), [a0])) else bindC (bif decide (t.2.2.1 < (1 : Int)) then some true else bif decide (t.2.2.1 > (8 : Int)) then some true else some (decide (t.2.2.1 < t.2.1))) fun t_4 => bif t_4 then some (Sum.inr ((9 : Int), [a0])) else bindC (bif decide ((↑(List.length t.2.2.2) : Int) < (1 : Int)) then some true else some (decide ((↑(List.length t.2.2.2) : Int) > (12 : Int)))) fun t_5 => bif t_5 then some (Sum.inr ((11 : Int), [a0])) else (l1.f K K a0 (0 : Int) a1 a2 a3 t.2.2.1 t.2.2.2).bind fun t => Sum.elim (fun t => l0.f K k (IntKind.i64.wrap (a0 + (1 : Int))) a1 a2 a3) (fun t => some (Sum.inr (t.1, t.2))) t else none else some (Sum.inl ())
noncomputable def l0.F (K : Nat) (k : Nat) : l0.h.I → Option ((Unit) ⊕ (Int × List Int)) := fun x => l0.f K k x.1.2 x.2.1.1 x.2.1.2.1 x.2.1.2.2
noncomputable def l0.lp {α : Type} (K : Nat) : St → Kn α → Option α := lpXRD 0 199 0 l0.h l0.x l0.r (l0.F K K) l0.cx l0.cr
noncomputable def l0.c : Code := nthLoop Tryz.f35 0
noncomputable def l0.LP {α : Type} (K : Nat) : LoopsBy α := (lpPut 18 (l1.lp K) (lpPut 24 (l2.lp K) noLoops))
theorem l0.eq (K : Nat) (k : Nat) (a0 : Int) (a1 : List Int) (a2 : List LFunc) (a3 : List LImport) : exec M (C K) (eqBy M.P) (l0.LP K) RF (CP K) 20 l0.c (Kl 0 l0.h (withCv (l0.F K k) (smap l0.cx l0.cr)) (backXR 0 0 l0.x l0.r)) (l0.h.enc 199 (((), a0), ((a1, (a2, a3)), ()))) = (l0.f K (k + 1) a0 a1 a2 a3).bind fun r => some ((smap l0.cx l0.cr) (((), a0), ((a1, (a2, a3)), ())) r) := by
  rw [l0.f]
  try simp only [el]
  kernel_rfl
theorem l0.leads (K : Nat) : ∀ k x y, withCv (l0.F K k) (smap l0.cx l0.cr) x = some y → Leads M 0 (.loop l0.c) (l0.h.enc 199 x) (outXR 199 0 l0.x l0.r y).1 (outXR 199 0 l0.x l0.r y).2 :=
  loopXR_sound (C_ok K) (eqBy_ok _) (by kernel_rfl) RF_ok (CP_ok K) (show LoopsOk M 0 (l0.LP K) (loopsOf l0.c) from (show loopsOf l0.c = [nthLoop Tryz.f35 1, nthLoop Tryz.f35 2] by kernel_rfl) ▸ ((loopsOk_put (key := 18) (by kernel_rfl) (l1.lp_ok K) (loopsOk_put (key := 24) (by kernel_rfl) (l2.lp_ok K) noLoops_ok (by kernel_rfl)) (by kernel_rfl)))) (Nat.le_of_ble_eq_true rfl) (Nat.le_of_ble_eq_true rfl) (Nat.le_of_ble_eq_true rfl) (fun x => rfl) (fun k x => l0.eq K k x.1.2 x.2.1.1 x.2.1.2.1 x.2.1.2.2)
theorem l0.lp_ok {α : Type} (K : Nat) : LoopOk (α := α) M 0 (nthLoop Tryz.f35 0) (l0.lp K) := lpXRD_ok (Nat.le_of_ble_eq_true rfl) (l0.leads K K)
noncomputable def f (K : Nat) (a0 : List Int) (a1 : List LFunc) (a2 : List LImport) : Option (Int × List Int) := bindC (bif decide ((↑a0.length : Int) > (16 : Int)) then some true else (avermentref04_Count.f K a1 a2).bind fun t => some (decide (t > (24 : Int)))) fun t => bif t then some ((11 : Int), []) else (l0.f K K (0 : Int) a0 a1 a2).bind fun t => Sum.elim (fun t => (l3.f K K (0 : Int) a1 a2).bind fun t => Sum.elim (fun t => some ((0 : Int), [])) (fun t => some (t.1, t.2)) t) (fun t => some (t.1, t.2)) t
noncomputable def F (K : Nat) : sig.In → Option (Int × List Int) := fun x => f K x.1.1 x.1.2.1 x.1.2.2
noncomputable def cv : sig.In → (Int × List Int) → sig.Ou := fun x r => ((r.1, r.2), ())
noncomputable def LP {α : Type} (K : Nat) : LoopsBy α := (lpPut 4 (l0.lp K) (lpPut 18 (l1.lp K) (lpPut 24 (l2.lp K) (lpPut 33 (l3.lp K) noLoops))))
theorem eq (K : Nat) (a0 : List Int) (a1 : List LFunc) (a2 : List LImport) : runF M sig (C K) (eqBy M.P) (LP K) RF (CP K) 20 Tryz.f35 (bodyOf Tryz.f35) ((a0, (a1, a2)), ()) = (f K a0 a1 a2).bind fun r => some (cv ((a0, (a1, a2)), ()) r) := by
  unfold f
  try simp only [el]
  kernel_rfl
theorem rets (K : Nat) : ∀ x y, withCv (F K) cv x = some y → Rets M 35 sig x y := fun x y h => runF_rets (L := 20) (C_ok K) (eqBy_ok _) (by kernel_rfl) RF_ok (CP_ok K) (show LoopsOk M 0 (LP K) (loopsOf (bodyOf Tryz.f35)) from (show loopsOf (bodyOf Tryz.f35) = [nthLoop Tryz.f35 0, nthLoop Tryz.f35 1, nthLoop Tryz.f35 2, nthLoop Tryz.f35 3] by kernel_rfl) ▸ (loopsOk_put (key := 4) (by kernel_rfl) (l0.lp_ok K) (loopsOk_put (key := 18) (by kernel_rfl) (l1.lp_ok K) (loopsOk_put (key := 24) (by kernel_rfl) (l2.lp_ok K) (loopsOk_put (key := 33) (by kernel_rfl) (l3.lp_ok K) noLoops_ok (by kernel_rfl)) (by kernel_rfl)) (by kernel_rfl)) (by kernel_rfl))) (Nat.le_of_ble_eq_true rfl) Tryz.func35 (by kernel_rfl) ((eq K x.1.1 x.1.2.1 x.1.2.2).trans h)
end avermentref04_Check
namespace avermentref07_Right
/-! ### avermentref07_Right: function 36 -/
noncomputable def sig : Sig := ⟨(.cons (.agg (.cons (.ty (.slice yI)) (.cons (.ty (.slice yFunc)) (.ty (.slice yImport))))) (.cons (.ty yI) (.ty (.slice yI)))), [], (.ty yI), []⟩
noncomputable def RF : RefitBy := noRefit
theorem RF_ok : RefitOk M 0 RF := noRefit_ok
noncomputable def C {α : Type} (K : Nat) : CallsBy α := noCalls
theorem C_ok {α : Type} (K : Nat) : CallsOk (α := α) M (C K) := noCalls_ok
noncomputable def CP {α : Type} (K : Nat) : CutBy α := (cpPut 3 (rpCut M bindC [.bool] [19] (C K) (eqBy M.P)) noCuts)
theorem CP_ok {α : Type} (K : Nat)  : CutsOk (α := α) M 0 (CP K) := (cpPut_ok (rpCut_ok (C_ok K) (eqBy_ok _) (by kernel_rfl)) noCuts_ok)
noncomputable def f (K : Nat) (a1 : List LFunc) (a2 : List LImport) (a3 : Int) (a4 : List Int) : Option (Int) := bif decide ((↑a2.length : Int) > (0 : Int)) then some (16 : Int) else bindC (bif decide (a3 < (0 : Int)) then some true else some (decide (a3 ≥ (↑a1.length : Int)))) fun t => bif t then some (7 : Int) else bif decide ((0 : Int) ≤ a3) && true then a1[a3.toNat]?.bind fun t => bif (↑a4.length : Int) != t.2.1 then some (10 : Int) else some (0 : Int) else none
noncomputable def F (K : Nat) : sig.In → Option (Int) := fun x => f K x.1.1.2.1 x.1.1.2.2 x.1.2.1 x.1.2.2
noncomputable def cv : sig.In → Int → sig.Ou := fun x r => (r, ())
noncomputable def LP {α : Type} (K : Nat) : LoopsBy α := noLoops
theorem eq (K : Nat) (a0 : List Int) (a1 : List LFunc) (a2 : List LImport) (a3 : Int) (a4 : List Int) : runF M sig (C K) (eqBy M.P) (LP K) RF (CP K) 20 Tryz.f36 (bodyOf Tryz.f36) (((a0, (a1, a2)), (a3, a4)), ()) = (f K a1 a2 a3 a4).bind fun r => some (cv (((a0, (a1, a2)), (a3, a4)), ()) r) := by
  unfold f
  try simp only [el]
  kernel_rfl
theorem rets (K : Nat) : ∀ x y, withCv (F K) cv x = some y → Rets M 36 sig x y := fun x y h => runF_rets (L := 20) (C_ok K) (eqBy_ok _) (by kernel_rfl) RF_ok (CP_ok K) (show LoopsOk M 0 (LP K) (loopsOf (bodyOf Tryz.f36)) from (show loopsOf (bodyOf Tryz.f36) = [] by kernel_rfl) ▸ noLoops_ok) (Nat.le_of_ble_eq_true rfl) Tryz.func36 (by kernel_rfl) ((eq K x.1.1.1 x.1.1.2.1 x.1.1.2.2 x.1.2.1 x.1.2.2).trans h)
end avermentref07_Right
namespace avermentlaw07_Ready
/-! ### avermentlaw07_Ready: function 7 -/
noncomputable def sig : Sig := ⟨(.agg (.cons (.ty (.slice yI)) (.cons (.ty (.slice yFunc)) (.cons (.ty (.slice yImport)) (.cons (.ty yI) (.cons (.ty (.slice yI)) (.ty (.slice yI)))))))), [], (.ty .bool), []⟩
noncomputable def RF : RefitBy := noRefit
theorem RF_ok : RefitOk M 0 RF := noRefit_ok
noncomputable def C {α : Type} (K : Nat) : CallsBy α := (entryD 35 avermentref04_Check.sig (avermentref04_Check.F K) avermentref04_Check.cv (entryD 36 avermentref07_Right.sig (avermentref07_Right.F K) avermentref07_Right.cv noCalls))
theorem C_ok {α : Type} (K : Nat) : CallsOk (α := α) M (C K) := (entryD_ok (entryD_ok noCalls_ok (by rfl) Tryz.func36 (by kernel_rfl) rfl (avermentref07_Right.rets K)) (by rfl) Tryz.func35 (by kernel_rfl) rfl (avermentref04_Check.rets K))
noncomputable def CP {α : Type} (K : Nat) : CutBy α := (cpPut 2 (rpCut M bindC [.bool] [2] (C K) (eqBy M.P)) noCuts)
theorem CP_ok {α : Type} (K : Nat)  : CutsOk (α := α) M 0 (CP K) := (cpPut_ok (rpCut_ok (C_ok K) (eqBy_ok _) (by kernel_rfl)) noCuts_ok)
noncomputable def f (K : Nat) (a0 : List Int) (a1 : List LFunc) (a2 : List LImport) (a3 : Int) (a4 : List Int) : Option (Bool) := (avermentref04_Check.f K a0 a1 a2).bind fun t => bindC (bif t.1 == (0 : Int) then (avermentref07_Right.f K a1 a2 a3 a4).bind fun t => some (t == (0 : Int)) else some false) fun t => some t
noncomputable def F (K : Nat) : sig.In → Option (Bool) := fun x => f K x.1.1 x.1.2.1 x.1.2.2.1 x.1.2.2.2.1 x.1.2.2.2.2.1
noncomputable def cv : sig.In → Bool → sig.Ou := fun x r => (r, ())
noncomputable def LP {α : Type} (K : Nat) : LoopsBy α := noLoops
theorem eq (K : Nat) (a0 : List Int) (a1 : List LFunc) (a2 : List LImport) (a3 : Int) (a4 : List Int) (a5 : List Int) : runF M sig (C K) (eqBy M.P) (LP K) RF (CP K) 20 Tryz.f7 (bodyOf Tryz.f7) ((a0, (a1, (a2, (a3, (a4, a5))))), ()) = (f K a0 a1 a2 a3 a4).bind fun r => some (cv ((a0, (a1, (a2, (a3, (a4, a5))))), ()) r) := by
  unfold f
  try simp only [el]
  kernel_rfl
theorem rets (K : Nat) : ∀ x y, withCv (F K) cv x = some y → Rets M 7 sig x y := fun x y h => runF_rets (L := 20) (C_ok K) (eqBy_ok _) (by kernel_rfl) RF_ok (CP_ok K) (show LoopsOk M 0 (LP K) (loopsOf (bodyOf Tryz.f7)) from (show loopsOf (bodyOf Tryz.f7) = [] by kernel_rfl) ▸ noLoops_ok) (Nat.le_of_ble_eq_true rfl) Tryz.func7 (by kernel_rfl) ((eq K x.1.1 x.1.2.1 x.1.2.2.1 x.1.2.2.2.1 x.1.2.2.2.2.1 x.1.2.2.2.2.2).trans h)
end avermentlaw07_Ready
namespace ir_Targets
/-! ### ir_Targets: function 168 -/
noncomputable def sig : Sig := ⟨(.agg (.cons (.ty yI) (.cons (.ty yI) (.cons (.ty yI) (.ty yI))))), [], (.ty (.slice yI)), []⟩
noncomputable def RF : RefitBy := noRefit
theorem RF_ok : RefitOk M 0 RF := noRefit_ok
noncomputable def C {α : Type} (K : Nat) : CallsBy α := noCalls
theorem C_ok {α : Type} (K : Nat) : CallsOk (α := α) M (C K) := noCalls_ok
noncomputable def CP {α : Type} (K : Nat) : CutBy α := (cpPut 2 (rpCut M bindC [.bool] [3] (C K) (eqBy M.P)) noCuts)
theorem CP_ok {α : Type} (K : Nat)  : CutsOk (α := α) M 0 (CP K) := (cpPut_ok (rpCut_ok (C_ok K) (eqBy_ok _) (by kernel_rfl)) noCuts_ok)
noncomputable def f (K : Nat) (a0 : Int) (a2 : Int) (a3 : Int) : Option (List Int) := bif a0 == (1 : Int) then some [a2] else bindC (bif a0 == (2 : Int) then some (a2 == a3) else some false) fun t => bif t then some [a2] else bif a0 == (2 : Int) then some [a2, a3] else some []
noncomputable def F (K : Nat) : sig.In → Option (List Int) := fun x => f K x.1.1 x.1.2.2.1 x.1.2.2.2
noncomputable def cv : sig.In → (List Int) → sig.Ou := fun x r => (r, ())
noncomputable def LP {α : Type} (K : Nat) : LoopsBy α := noLoops
theorem eq (K : Nat) (a0 : Int) (a1 : Int) (a2 : Int) (a3 : Int) : runF M sig (C K) (eqBy M.P) (LP K) RF (CP K) 20 Tryz.f168 (bodyOf Tryz.f168) ((a0, (a1, (a2, a3))), ()) = (f K a0 a2 a3).bind fun r => some (cv ((a0, (a1, (a2, a3))), ()) r) := by
  unfold f
  try simp only [el]
  kernel_rfl
theorem rets (K : Nat) : ∀ x y, withCv (F K) cv x = some y → Rets M 168 sig x y := fun x y h => runF_rets (L := 20) (C_ok K) (eqBy_ok _) (by kernel_rfl) RF_ok (CP_ok K) (show LoopsOk M 0 (LP K) (loopsOf (bodyOf Tryz.f168)) from (show loopsOf (bodyOf Tryz.f168) = [] by kernel_rfl) ▸ noLoops_ok) (Nat.le_of_ble_eq_true rfl) Tryz.func168 (by kernel_rfl) ((eq K x.1.1 x.1.2.1 x.1.2.2.1 x.1.2.2.2).trans h)
end ir_Targets
namespace cfg_Next
/-! ### cfg_Next: function 148 -/
noncomputable def sig : Sig := ⟨(.agg (.cons (.ty .str) (.cons (.ty yI) (.cons (.ty yI) (.ty (.slice yBlock)))))), [], (.ty (.slice (.slice yI))), []⟩
noncomputable def RF : RefitBy := noRefit
theorem RF_ok : RefitOk M 0 RF := noRefit_ok
noncomputable def C {α : Type} (K : Nat) : CallsBy α := (entryD 168 ir_Targets.sig (ir_Targets.F K) ir_Targets.cv noCalls)
theorem C_ok {α : Type} (K : Nat) : CallsOk (α := α) M (C K) := (entryD_ok noCalls_ok (by rfl) Tryz.func168 (by kernel_rfl) rfl (ir_Targets.rets K))
noncomputable def CP {α : Type} (K : Nat) : CutBy α := noCuts
theorem CP_ok {α : Type} (K : Nat)  : CutsOk (α := α) M 0 (CP K) := noCuts_ok
noncomputable def l0.h : SSh := ⟨[3, 7, 8, 9], (.cons (.own 0) (.cons (.ty (.slice yBlock)) (.cons (.ty yI) (.ty yI)))), [.list 84 (.slice yI) []]⟩
noncomputable def l0.x : SSh := ⟨[3], (.own 0), [.list 84 (.slice yI) []]⟩
noncomputable def l0.cx : l0.h.I → (List (List Int)) → l0.x.I := fun x r => ((), (r, ()))
noncomputable def l0.f (K : Nat) : Nat → List LBlock → Int → Int → List (List Int) → Option (List (List Int))
  | 0, _, _, _, _ => none
  | k + 1, a0, a1, a2, a3 => bif decide (a2 < a1) then bif decide ((0 : Int) ≤ a2) && true then a0[a2.toNat]?.bind fun t => (ir_Targets.f K t.2.1 t.2.2.2.1 t.2.2.2.2).bind fun t => bif (a3.length + [t].length).ble (100000 : Nat) then l0.f K k a0 a1 (IntKind.i64.wrap (a2 + (1 : Int))) (a3 ++ [t]) else none else none else some a3
noncomputable def l0.F (K : Nat) (k : Nat) : l0.h.I → Option (List (List Int)) := fun x => l0.f K k x.1.2.1 x.1.2.2.1 x.1.2.2.2 x.2.1
noncomputable def l0.lp {α : Type} (K : Nat) : St → Kn α → Option α := lpX 0 21 0 l0.h l0.x (l0.F K K) l0.cx
noncomputable def l0.c : Code := nthLoop Tryz.f148 0
noncomputable def l0.LP {α : Type} (K : Nat) : LoopsBy α := noLoops
theorem l0.eq (K : Nat) (k : Nat) (a0 : List LBlock) (a1 : Int) (a2 : Int) (a3 : List (List Int)) : exec M (C K) (eqBy M.P) (l0.LP K) RF (CP K) 20 l0.c (Kl 0 l0.h (withCv (l0.F K k) l0.cx) (backX 0 21 0 l0.x)) (l0.h.enc 21 (((), (a0, (a1, a2))), (a3, ()))) = (l0.f K (k + 1) a0 a1 a2 a3).bind fun r => some (l0.cx (((), (a0, (a1, a2))), (a3, ())) r) := by
  rw [l0.f]
  try simp only [el]
  kernel_rfl
theorem l0.leads (K : Nat) : ∀ k x y, withCv (l0.F K k) l0.cx x = some y → Leads M 0 (.loop l0.c) (l0.h.enc 21 x) (outX 21 0 l0.x y).1 (outX 21 0 l0.x y).2 :=
  loopX_sound (C_ok K) (eqBy_ok _) (by kernel_rfl) RF_ok (CP_ok K) (show LoopsOk M 0 (l0.LP K) (loopsOf l0.c) from (show loopsOf l0.c = [] by kernel_rfl) ▸ (noLoops_ok)) (Nat.le_of_ble_eq_true rfl) (Nat.le_of_ble_eq_true rfl) (fun x => rfl) (fun k x => l0.eq K k x.1.2.1 x.1.2.2.1 x.1.2.2.2 x.2.1)
theorem l0.lp_ok {α : Type} (K : Nat) : LoopOk (α := α) M 0 (nthLoop Tryz.f148 0) (l0.lp K) := lpX_ok (Nat.le_of_ble_eq_true rfl) (l0.leads K K)
noncomputable def f (K : Nat) (a3 : List LBlock) : Option (List (List Int)) := l0.f K K a3 (↑a3.length : Int) (0 : Int) []
noncomputable def F (K : Nat) : sig.In → Option (List (List Int)) := fun x => f K x.1.2.2.2
noncomputable def cv : sig.In → (List (List Int)) → sig.Ou := fun x r => (r, ())
noncomputable def LP {α : Type} (K : Nat) : LoopsBy α := (lpPut 3 (l0.lp K) noLoops)
theorem eq (K : Nat) (a0 : ByteArray) (a1 : Int) (a2 : Int) (a3 : List LBlock) : runF M sig (C K) (eqBy M.P) (LP K) RF (CP K) 20 Tryz.f148 (bodyOf Tryz.f148) ((a0, (a1, (a2, a3))), ()) = (f K a3).bind fun r => some (cv ((a0, (a1, (a2, a3))), ()) r) := by
  unfold f
  try simp only [el]
  kernel_rfl
theorem rets (K : Nat) : ∀ x y, withCv (F K) cv x = some y → Rets M 148 sig x y := fun x y h => runF_rets (L := 20) (C_ok K) (eqBy_ok _) (by kernel_rfl) RF_ok (CP_ok K) (show LoopsOk M 0 (LP K) (loopsOf (bodyOf Tryz.f148)) from (show loopsOf (bodyOf Tryz.f148) = [nthLoop Tryz.f148 0] by kernel_rfl) ▸ (loopsOk_put (key := 3) (by kernel_rfl) (l0.lp_ok K) noLoops_ok (by kernel_rfl))) (Nat.le_of_ble_eq_true rfl) Tryz.func148 (by kernel_rfl) ((eq K x.1.1 x.1.2.1 x.1.2.2.1 x.1.2.2.2).trans h)
end cfg_Next
namespace cfg_walk_open
/-! ### cfg_walk_open: function 149 -/
noncomputable def sig : Sig := ⟨(.cons (.ptr 0 0) (.ty yI)), [.cells 205 0 (.cons (.ty (.slice (.slice yI))) (.cons (.own 1) (.cons (.own 2) (.own 3)))), .list 3 yI [], .list 3 yI [], .list 271 ySpan []], .unit, [.cells 205 0 (.cons (.ty (.slice (.slice yI))) (.cons (.own 1) (.cons (.own 4) (.own 5)))), .list 3 yI [], .dead, .dead, .list 3 yI [], .list 271 ySpan []]⟩
noncomputable def RF : RefitBy := noRefit
theorem RF_ok : RefitOk M 4 RF := noRefit_ok
noncomputable def cv : sig.In → (List (List Int) × List Int × List Int × List LSpan) → sig.Ou := fun x r => ((), ((r.1, ((), ((), ()))), (r.2.1, ((), ((), (r.2.2.1, (r.2.2.2, ())))))))
noncomputable def Fs (self : Int → List (List Int) → List Int → List Int → List LSpan → Option (List (List Int) × List Int × List Int × List LSpan)) : sig.In → Option (List (List Int) × List Int × List Int × List LSpan) := fun x => self x.1.2 x.2.1.1 x.2.2.1 x.2.2.2.1 x.2.2.2.2.1
noncomputable def C {α : Type} (K : Nat) (self : Int → List (List Int) → List Int → List Int → List LSpan → Option (List (List Int) × List Int × List Int × List LSpan)) : CallsBy α := (entryD 149 sig (Fs self) cv noCalls)
theorem C_ok {α : Type} (K : Nat) (self : Int → List (List Int) → List Int → List Int → List LSpan → Option (List (List Int) × List Int × List Int × List LSpan)) (ih : ∀ x y, withCv (Fs self) cv x = some y → Rets M 149 sig x y) : CallsOk (α := α) M (C K self) := (entryD_ok noCalls_ok (by rfl) Tryz.func149 (by kernel_rfl) rfl (ih))
noncomputable def CP {α : Type} (K : Nat) (self : Int → List (List Int) → List Int → List Int → List LSpan → Option (List (List Int) × List Int × List Int × List LSpan)) : CutBy α := noCuts
theorem CP_ok {α : Type} (K : Nat) (self : Int → List (List Int) → List Int → List Int → List LSpan → Option (List (List Int) × List Int × List Int × List LSpan)) (ih : ∀ x y, withCv (Fs self) cv x = some y → Rets M 149 sig x y) : CutsOk (α := α) M 4 (CP K self) := noCuts_ok
noncomputable def l0.h : SSh := ⟨[0, 1, 18, 19, 20], (.cons (.ptr 0 0) (.cons (.ty yI) (.cons (.ty (.slice yI)) (.cons (.ty yI) (.ty yI))))), [.cells 205 0 (.cons (.ty (.slice (.slice yI))) (.cons (.own 1) (.cons (.own 4) (.own 5)))), .list 3 yI [], .dead, .dead, .list 3 yI [], .list 271 ySpan []]⟩
noncomputable def l0.x : SSh := ⟨[0, 1], (.cons (.ptr 0 0) (.ty yI)), [.cells 205 0 (.cons (.ty (.slice (.slice yI))) (.cons (.own 1) (.cons (.own 4) (.own 5)))), .list 3 yI [], .dead, .dead, .list 3 yI [], .list 271 ySpan []]⟩
noncomputable def l0.cx : l0.h.I → (List (List Int) × List Int × List Int × List LSpan) → l0.x.I := fun x r => (((), x.1.2.1), ((r.1, ((), ((), ()))), (r.2.1, ((), ((), (r.2.2.1, (r.2.2.2, ())))))))
noncomputable def l0.f (K : Nat) (self : Int → List (List Int) → List Int → List Int → List LSpan → Option (List (List Int) × List Int × List Int × List LSpan)) : Nat → Int → List Int → Int → Int → List (List Int) → List Int → List Int → List LSpan → Option (List (List Int) × List Int × List Int × List LSpan)
  | 0, _, _, _, _, _, _, _, _ => none
  | k + 1, a0, a1, a2, a3, a4, a5, a6, a7 => bif decide (a3 < a2) then bif decide ((0 : Int) ≤ a3) && true then a1[a3.toNat]?.bind fun t => bif decide ((0 : Int) ≤ t) then bif (Int.toNat t).blt a5.length then a5[Int.toNat t]?.bind fun t_1 => bif t_1 == (0 : Int) then (self t a4 a5 a6 a7).bind fun t => l0.f K self k a0 a1 a2 (IntKind.i64.wrap (a3 + (1 : Int))) t.1 t.2.1 t.2.2.1 t.2.2.2 else bif t_1 == (1 : Int) then bif (a7.length + [(a0, t)].length).ble (100000 : Nat) then l0.f K self k a0 a1 a2 (IntKind.i64.wrap (a3 + (1 : Int))) a4 a5 a6 (a7 ++ [(a0, t)]) else none else l0.f K self k a0 a1 a2 (IntKind.i64.wrap (a3 + (1 : Int))) a4 a5 a6 a7 else none else none else none else some (a4, a5, a6, a7)
noncomputable def l0.F (K : Nat) (self : Int → List (List Int) → List Int → List Int → List LSpan → Option (List (List Int) × List Int × List Int × List LSpan)) (k : Nat) : l0.h.I → Option (List (List Int) × List Int × List Int × List LSpan) := fun x => l0.f K self k x.1.2.1 x.1.2.2.1 x.1.2.2.2.1 x.1.2.2.2.2 x.2.1.1 x.2.2.1 x.2.2.2.2.2.1 x.2.2.2.2.2.2.1
noncomputable def l0.lp {α : Type} (K : Nat) (self : Int → List (List Int) → List Int → List Int → List LSpan → Option (List (List Int) × List Int × List Int × List LSpan)) : St → Kn α → Option α := lpX 4 67 0 l0.h l0.x (l0.F K self K) l0.cx
noncomputable def l0.c : Code := nthLoop Tryz.f149 0
noncomputable def l0.LP {α : Type} (K : Nat) (self : Int → List (List Int) → List Int → List Int → List LSpan → Option (List (List Int) × List Int × List Int × List LSpan)) : LoopsBy α := noLoops
theorem l0.eq (K : Nat) (self : Int → List (List Int) → List Int → List Int → List LSpan → Option (List (List Int) × List Int × List Int × List LSpan)) (k : Nat) (a0 : Int) (a1 : List Int) (a2 : Int) (a3 : Int) (a4 : List (List Int)) (a5 : List Int) (a6 : List Int) (a7 : List LSpan) : exec M (C K self) (eqBy M.P) (l0.LP K self) RF (CP K self) 20 l0.c (Kl 4 l0.h (withCv (l0.F K self k) l0.cx) (backX 4 67 0 l0.x)) (l0.h.enc 67 (((), (a0, (a1, (a2, a3)))), ((a4, ((), ((), ()))), (a5, ((), ((), (a6, (a7, ())))))))) = (l0.f K self (k + 1) a0 a1 a2 a3 a4 a5 a6 a7).bind fun r => some (l0.cx (((), (a0, (a1, (a2, a3)))), ((a4, ((), ((), ()))), (a5, ((), ((), (a6, (a7, ()))))))) r) := by
  rw [l0.f]
  try simp only [el]
  kernel_rfl
theorem l0.leads (K : Nat) (self : Int → List (List Int) → List Int → List Int → List LSpan → Option (List (List Int) × List Int × List Int × List LSpan)) (ih : ∀ x y, withCv (Fs self) cv x = some y → Rets M 149 sig x y) : ∀ k x y, withCv (l0.F K self k) l0.cx x = some y → Leads M 4 (.loop l0.c) (l0.h.enc 67 x) (outX 67 0 l0.x y).1 (outX 67 0 l0.x y).2 :=
  loopX_sound (C_ok K self ih) (eqBy_ok _) (by kernel_rfl) RF_ok (CP_ok K self ih) (show LoopsOk M 4 (l0.LP K self) (loopsOf l0.c) from (show loopsOf l0.c = [] by kernel_rfl) ▸ (noLoops_ok)) (Nat.le_of_ble_eq_true rfl) (Nat.le_of_ble_eq_true rfl) (fun x => rfl) (fun k x => l0.eq K self k x.1.2.1 x.1.2.2.1 x.1.2.2.2.1 x.1.2.2.2.2 x.2.1.1 x.2.2.1 x.2.2.2.2.2.1 x.2.2.2.2.2.2.1)
theorem l0.lp_ok {α : Type} (K : Nat) (self : Int → List (List Int) → List Int → List Int → List LSpan → Option (List (List Int) × List Int × List Int × List LSpan)) (ih : ∀ x y, withCv (Fs self) cv x = some y → Rets M 149 sig x y) : LoopOk (α := α) M 4 (nthLoop Tryz.f149 0) (l0.lp K self) := lpX_ok (Nat.le_of_ble_eq_true rfl) (l0.leads K self ih K)
noncomputable def body (K : Nat) (self : Int → List (List Int) → List Int → List Int → List LSpan → Option (List (List Int) × List Int × List Int × List LSpan)) (a0 : Int) (a1 : List (List Int)) (a2 : List Int) (a3 : List Int) (a4 : List LSpan) : Option (List (List Int) × List Int × List Int × List LSpan) := bif decide ((0 : Int) ≤ a0) then bif a0.toNat.blt a2.length then a2[a0.toNat]?.bind fun t => bif decide ((0 : Int) ≤ a0) && true then a1[a0.toNat]?.bind fun t => (l0.f K self K a0 t (↑(List.length t) : Int) (0 : Int) a1 (a2.set a0.toNat (1 : Int)) a3 a4).bind fun t => bif decide ((0 : Int) ≤ a0) then bif a0.toNat.blt t.2.1.length then t.2.1[a0.toNat]?.bind fun t_1 => bif (t.2.2.1.length + [a0].length).ble (100000 : Nat) then some (t.1, t.2.1.set a0.toNat (2 : Int), t.2.2.1 ++ [a0], t.2.2.2) else none else none else none else none else none else none
noncomputable def LP {α : Type} (K : Nat) (self : Int → List (List Int) → List Int → List Int → List LSpan → Option (List (List Int) × List Int × List Int × List LSpan)) : LoopsBy α := (lpPut 2 (l0.lp K self) noLoops)
noncomputable def f (K : Nat) : Nat → Int → List (List Int) → List Int → List Int → List LSpan → Option (List (List Int) × List Int × List Int × List LSpan)
  | 0, _, _, _, _, _ => none
  | q + 1, a0, a1, a2, a3, a4 => body K (f K q) a0 a1 a2 a3 a4
noncomputable def F (K : Nat) : sig.In → Option (List (List Int) × List Int × List Int × List LSpan) := fun x => f K K x.1.2 x.2.1.1 x.2.2.1 x.2.2.2.1 x.2.2.2.2.1
theorem eq (K : Nat) (self : Int → List (List Int) → List Int → List Int → List LSpan → Option (List (List Int) × List Int × List Int × List LSpan)) (a0 : Int) (a1 : List (List Int)) (a2 : List Int) (a3 : List Int) (a4 : List LSpan) : runF M sig (C K self) (eqBy M.P) (LP K self) RF (CP K self) 20 Tryz.f149 (bodyOf Tryz.f149) (((), a0), ((a1, ((), ((), ()))), (a2, (a3, (a4, ()))))) = (body K self a0 a1 a2 a3 a4).bind fun r => some (cv (((), a0), ((a1, ((), ((), ()))), (a2, (a3, (a4, ()))))) r) := by
  unfold body
  try simp only [el]
  kernel_rfl
theorem step (K : Nat) (self : Int → List (List Int) → List Int → List Int → List LSpan → Option (List (List Int) × List Int × List Int × List LSpan)) (ih : ∀ x y, withCv (Fs self) cv x = some y → Rets M 149 sig x y) : ∀ x y, withCv (Fs (fun a0 a1 a2 a3 a4 => body K self a0 a1 a2 a3 a4)) cv x = some y → Rets M 149 sig x y := fun x y h => runF_rets (L := 20) (C_ok K self ih) (eqBy_ok _) (by kernel_rfl) RF_ok (CP_ok K self ih) (show LoopsOk M 4 (LP K self) (loopsOf (bodyOf Tryz.f149)) from (show loopsOf (bodyOf Tryz.f149) = [nthLoop Tryz.f149 0] by kernel_rfl) ▸ (loopsOk_put (key := 2) (by kernel_rfl) (l0.lp_ok K self ih) noLoops_ok (by kernel_rfl))) (Nat.le_of_ble_eq_true rfl) Tryz.func149 (by kernel_rfl) ((eq K self x.1.2 x.2.1.1 x.2.2.1 x.2.2.2.1 x.2.2.2.2.1).trans h)
theorem retsq (K : Nat) : ∀ q x y, withCv (Fs (f K q)) cv x = some y → Rets M 149 sig x y
  | 0, x, y, h => by cases h
  | q + 1, x, y, h => step K (f K q) (retsq K q) x y h
theorem rets (K : Nat) : ∀ x y, withCv (F K) cv x = some y → Rets M 149 sig x y := retsq K K
end cfg_walk_open
namespace cfg_gone
/-! ### cfg_gone: function 103 -/
noncomputable def sig : Sig := ⟨(.agg (.cons (.ty .str) (.cons (.ty yI) (.cons (.ty yI) (.ty (.slice yBlock)))))), [], (.ptr 0 0), [.cells 205 0 (.cons (.ty (.slice (.slice yI))) (.cons (.own 1) (.cons (.own 2) (.own 3)))), .list 3 yI [], .list 3 yI [], .list 271 ySpan []]⟩
noncomputable def RF : RefitBy := noRefit
theorem RF_ok : RefitOk M 0 RF := noRefit_ok
noncomputable def C {α : Type} (K : Nat) : CallsBy α := (entryD 148 cfg_Next.sig (cfg_Next.F K) cfg_Next.cv (entryD 149 cfg_walk_open.sig (cfg_walk_open.F K) cfg_walk_open.cv noCalls))
theorem C_ok {α : Type} (K : Nat) : CallsOk (α := α) M (C K) := (entryD_ok (entryD_ok noCalls_ok (by rfl) Tryz.func149 (by kernel_rfl) rfl (cfg_walk_open.rets K)) (by rfl) Tryz.func148 (by kernel_rfl) rfl (cfg_Next.rets K))
noncomputable def CP {α : Type} (K : Nat) : CutBy α := noCuts
theorem CP_ok {α : Type} (K : Nat)  : CutsOk (α := α) M 0 (CP K) := noCuts_ok
noncomputable def f (K : Nat) (a3 : List LBlock) : Option (List (List Int) × List Int × List Int × List LSpan) := (cfg_Next.f K a3).bind fun t => bif decide ((↑a3.length : Int) ≤ (100000 : Int)) && (↑a3.length : Int) == (↑a3.length : Int) && true && true && true then bif decide ((↑a3.length : Int) > (0 : Int)) then cfg_walk_open.f K K (0 : Int) t (List.replicate (↑a3.length : Int).toNat (0 : Int)) [] [] else some (t, List.replicate (↑a3.length : Int).toNat (0 : Int), [], []) else none
noncomputable def F (K : Nat) : sig.In → Option (List (List Int) × List Int × List Int × List LSpan) := fun x => f K x.1.2.2.2
noncomputable def cv : sig.In → (List (List Int) × List Int × List Int × List LSpan) → sig.Ou := fun x r => ((), ((r.1, ((), ((), ()))), (r.2.1, (r.2.2.1, (r.2.2.2, ())))))
noncomputable def LP {α : Type} (K : Nat) : LoopsBy α := noLoops
theorem eq (K : Nat) (a0 : ByteArray) (a1 : Int) (a2 : Int) (a3 : List LBlock) : runF M sig (C K) (eqBy M.P) (LP K) RF (CP K) 20 Tryz.f103 (bodyOf Tryz.f103) ((a0, (a1, (a2, a3))), ()) = (f K a3).bind fun r => some (cv ((a0, (a1, (a2, a3))), ()) r) := by
  unfold f
  try simp only [el]
  kernel_rfl
theorem rets (K : Nat) : ∀ x y, withCv (F K) cv x = some y → Rets M 103 sig x y := fun x y h => runF_rets (L := 20) (C_ok K) (eqBy_ok _) (by kernel_rfl) RF_ok (CP_ok K) (show LoopsOk M 0 (LP K) (loopsOf (bodyOf Tryz.f103)) from (show loopsOf (bodyOf Tryz.f103) = [] by kernel_rfl) ▸ noLoops_ok) (Nat.le_of_ble_eq_true rfl) Tryz.func103 (by kernel_rfl) ((eq K x.1.1 x.1.2.1 x.1.2.2.1 x.1.2.2.2).trans h)
end cfg_gone
namespace math_bits_Len32
/-! ### math_bits_Len32: function 177 -/
noncomputable def sig : Sig := ⟨(.ty (.int .u32)), [], (.ty yI), []⟩
noncomputable def RF : RefitBy := noRefit
theorem RF_ok : RefitOk M 0 RF := noRefit_ok
noncomputable def C {α : Type} (K : Nat) : CallsBy α := noCalls
theorem C_ok {α : Type} (K : Nat) : CallsOk (α := α) M (C K) := noCalls_ok
noncomputable def CP {α : Type} (K : Nat) : CutBy α := noCuts
theorem CP_ok {α : Type} (K : Nat)  : CutsOk (α := α) M 0 (CP K) := noCuts_ok
noncomputable def f (K : Nat) (a0 : Int) : Option (Int) := bif decide (a0 ≥ (65536 : Int)) then bif decide (a0.fdiv ((2 : Int) ^ (16 : Nat)) ≥ (256 : Int)) then bif decide ((0 : Int) ≤ IntKind.u8.wrap ((a0.fdiv ((2 : Int) ^ (16 : Nat))).fdiv ((2 : Int) ^ (8 : Nat)))) then bif (IntKind.u8.wrap ((a0.fdiv ((2 : Int) ^ (16 : Nat))).fdiv ((2 : Int) ^ (8 : Nat)))).toNat.blt (256 : Nat) then some (IntKind.i64.wrap (IntKind.i64.wrap ((16 : Int) + (8 : Int)) + IntKind.i64.wrap (↑((ByteArray.mk (([(0 : UInt8), (1 : UInt8), (2 : UInt8), (2 : UInt8), (3 : UInt8), (3 : UInt8), (3 : UInt8), (3 : UInt8), (4 : UInt8), (4 : UInt8), (4 : UInt8), (4 : UInt8), (4 : UInt8), (4 : UInt8), (4 : UInt8), (4 : UInt8), (5 : UInt8), (5 : UInt8), (5 : UInt8), (5 : UInt8), (5 : UInt8), (5 : UInt8), (5 : UInt8), (5 : UInt8), (5 : UInt8), (5 : UInt8), (5 : UInt8), (5 : UInt8), (5 : UInt8), (5 : UInt8), (5 : UInt8), (5 : UInt8), (6 : UInt8), (6 : UInt8), (6 : UInt8), (6 : UInt8), (6 : UInt8), (6 : UInt8), (6 : UInt8), (6 : UInt8), (6 : UInt8), (6 : UInt8), (6 : UInt8), (6 : UInt8), (6 : UInt8), (6 : UInt8), (6 : UInt8), (6 : UInt8), (6 : UInt8), (6 : UInt8), (6 : UInt8), (6 : UInt8), (6 : UInt8), (6 : UInt8), (6 : UInt8), (6 : UInt8), (6 : UInt8), (6 : UInt8), (6 : UInt8), (6 : UInt8), (6 : UInt8), (6 : UInt8), (6 : UInt8), (6 : UInt8)].append [(7 : UInt8), (7 : UInt8), (7 : UInt8), (7 : UInt8), (7 : UInt8), (7 : UInt8), (7 : UInt8), (7 : UInt8), (7 : UInt8), (7 : UInt8), (7 : UInt8), (7 : UInt8), (7 : UInt8), (7 : UInt8), (7 : UInt8), (7 : UInt8), (7 : UInt8), (7 : UInt8), (7 : UInt8), (7 : UInt8), (7 : UInt8), (7 : UInt8), (7 : UInt8), (7 : UInt8), (7 : UInt8), (7 : UInt8), (7 : UInt8), (7 : UInt8), (7 : UInt8), (7 : UInt8), (7 : UInt8), (7 : UInt8), (7 : UInt8), (7 : UInt8), (7 : UInt8), (7 : UInt8), (7 : UInt8), (7 : UInt8), (7 : UInt8), (7 : UInt8), (7 : UInt8), (7 : UInt8), (7 : UInt8), (7 : UInt8), (7 : UInt8), (7 : UInt8), (7 : UInt8), (7 : UInt8), (7 : UInt8), (7 : UInt8), (7 : UInt8), (7 : UInt8), (7 : UInt8), (7 : UInt8), (7 : UInt8), (7 : UInt8), (7 : UInt8), (7 : UInt8), (7 : UInt8), (7 : UInt8), (7 : UInt8), (7 : UInt8), (7 : UInt8), (7 : UInt8)]).append ([(8 : UInt8), (8 : UInt8), (8 : UInt8), (8 : UInt8), (8 : UInt8), (8 : UInt8), (8 : UInt8), (8 : UInt8), (8 : UInt8), (8 : UInt8), (8 : UInt8), (8 : UInt8), (8 : UInt8), (8 : UInt8), (8 : UInt8), (8 : UInt8), (8 : UInt8), (8 : UInt8), (8 : UInt8), (8 : UInt8), (8 : UInt8), (8 : UInt8), (8 : UInt8), (8 : UInt8), (8 : UInt8), (8 : UInt8), (8 : UInt8), (8 : UInt8), (8 : UInt8), (8 : UInt8), (8 : UInt8), (8 : UInt8), (8 : UInt8), (8 : UInt8), (8 : UInt8), (8 : UInt8), (8 : UInt8), (8 : UInt8), (8 : UInt8), (8 : UInt8), (8 : UInt8), (8 : UInt8), (8 : UInt8), (8 : UInt8), (8 : UInt8), (8 : UInt8), (8 : UInt8), (8 : UInt8), (8 : UInt8), (8 : UInt8), (8 : UInt8), (8 : UInt8), (8 : UInt8), (8 : UInt8), (8 : UInt8), (8 : UInt8), (8 : UInt8), (8 : UInt8), (8 : UInt8), (8 : UInt8), (8 : UInt8), (8 : UInt8), (8 : UInt8), (8 : UInt8)].append [(8 : UInt8), (8 : UInt8), (8 : UInt8), (8 : UInt8), (8 : UInt8), (8 : UInt8), (8 : UInt8), (8 : UInt8), (8 : UInt8), (8 : UInt8), (8 : UInt8), (8 : UInt8), (8 : UInt8), (8 : UInt8), (8 : UInt8), (8 : UInt8), (8 : UInt8), (8 : UInt8), (8 : UInt8), (8 : UInt8), (8 : UInt8), (8 : UInt8), (8 : UInt8), (8 : UInt8), (8 : UInt8), (8 : UInt8), (8 : UInt8), (8 : UInt8), (8 : UInt8), (8 : UInt8), (8 : UInt8), (8 : UInt8), (8 : UInt8), (8 : UInt8), (8 : UInt8), (8 : UInt8), (8 : UInt8), (8 : UInt8), (8 : UInt8), (8 : UInt8), (8 : UInt8), (8 : UInt8), (8 : UInt8), (8 : UInt8), (8 : UInt8), (8 : UInt8), (8 : UInt8), (8 : UInt8), (8 : UInt8), (8 : UInt8), (8 : UInt8), (8 : UInt8), (8 : UInt8), (8 : UInt8), (8 : UInt8), (8 : UInt8), (8 : UInt8), (8 : UInt8), (8 : UInt8), (8 : UInt8), (8 : UInt8), (8 : UInt8), (8 : UInt8), (8 : UInt8)])).toArray)[(IntKind.u8.wrap ((a0.fdiv ((2 : Int) ^ (16 : Nat))).fdiv ((2 : Int) ^ (8 : Nat)))).toNat]?.getD (0 : UInt8)).toNat : Int))) else none else none else bif decide ((0 : Int) ≤ IntKind.u8.wrap (a0.fdiv ((2 : Int) ^ (16 : Nat)))) then bif (IntKind.u8.wrap (a0.fdiv ((2 : Int) ^ (16 : Nat)))).toNat.blt (256 : Nat) then some (IntKind.i64.wrap ((16 : Int) + IntKind.i64.wrap (↑((ByteArray.mk (([(0 : UInt8), (1 : UInt8), (2 : UInt8), (2 : UInt8), (3 : UInt8), (3 : UInt8), (3 : UInt8), (3 : UInt8), (4 : UInt8), (4 : UInt8), (4 : UInt8), (4 : UInt8), (4 : UInt8), (4 : UInt8), (4 : UInt8), (4 : UInt8), (5 : UInt8), (5 : UInt8), (5 : UInt8), (5 : UInt8), (5 : UInt8), (5 : UInt8), (5 : UInt8), (5 : UInt8), (5 : UInt8), (5 : UInt8), (5 : UInt8), (5 : UInt8), (5 : UInt8), (5 : UInt8), (5 : UInt8), (5 : UInt8), (6 : UInt8), (6 : UInt8), (6 : UInt8), (6 : UInt8), (6 : UInt8), (6 : UInt8), (6 : UInt8), (6 : UInt8), (6 : UInt8), (6 : UInt8), (6 : UInt8), (6 : UInt8), (6 : UInt8), (6 : UInt8), (6 : UInt8), (6 : UInt8), (6 : UInt8), (6 : UInt8), (6 : UInt8), (6 : UInt8), (6 : UInt8), (6 : UInt8), (6 : UInt8), (6 : UInt8), (6 : UInt8), (6 : UInt8), (6 : UInt8), (6 : UInt8), (6 : UInt8), (6 : UInt8), (6 : UInt8), (6 : UInt8)].append [(7 : UInt8), (7 : UInt8), (7 : UInt8), (7 : UInt8), (7 : UInt8), (7 : UInt8), (7 : UInt8), (7 : UInt8), (7 : UInt8), (7 : UInt8), (7 : UInt8), (7 : UInt8), (7 : UInt8), (7 : UInt8), (7 : UInt8), (7 : UInt8), (7 : UInt8), (7 : UInt8), (7 : UInt8), (7 : UInt8), (7 : UInt8), (7 : UInt8), (7 : UInt8), (7 : UInt8), (7 : UInt8), (7 : UInt8), (7 : UInt8), (7 : UInt8), (7 : UInt8), (7 : UInt8), (7 : UInt8), (7 : UInt8), (7 : UInt8), (7 : UInt8), (7 : UInt8), (7 : UInt8), (7 : UInt8), (7 : UInt8), (7 : UInt8), (7 : UInt8), (7 : UInt8), (7 : UInt8), (7 : UInt8), (7 : UInt8), (7 : UInt8), (7 : UInt8), (7 : UInt8), (7 : UInt8), (7 : UInt8), (7 : UInt8), (7 : UInt8), (7 : UInt8), (7 : UInt8), (7 : UInt8), (7 : UInt8), (7 : UInt8), (7 : UInt8), (7 : UInt8), (7 : UInt8), (7 : UInt8), (7 : UInt8), (7 : UInt8), (7 : UInt8), (7 : UInt8)]).append ([(8 : UInt8), (8 : UInt8), (8 : UInt8), (8 : UInt8), (8 : UInt8), (8 : UInt8), (8 : UInt8), (8 : UInt8), (8 : UInt8), (8 : UInt8), (8 : UInt8), (8 : UInt8), (8 : UInt8), (8 : UInt8), (8 : UInt8), (8 : UInt8), (8 : UInt8), (8 : UInt8), (8 : UInt8), (8 : UInt8), (8 : UInt8), (8 : UInt8), (8 : UInt8), (8 : UInt8), (8 : UInt8), (8 : UInt8), (8 : UInt8), (8 : UInt8), (8 : UInt8), (8 : UInt8), (8 : UInt8), (8 : UInt8), (8 : UInt8), (8 : UInt8), (8 : UInt8), (8 : UInt8), (8 : UInt8), (8 : UInt8), (8 : UInt8), (8 : UInt8), (8 : UInt8), (8 : UInt8), (8 : UInt8), (8 : UInt8), (8 : UInt8), (8 : UInt8), (8 : UInt8), (8 : UInt8), (8 : UInt8), (8 : UInt8), (8 : UInt8), (8 : UInt8), (8 : UInt8), (8 : UInt8), (8 : UInt8), (8 : UInt8), (8 : UInt8), (8 : UInt8), (8 : UInt8), (8 : UInt8), (8 : UInt8), (8 : UInt8), (8 : UInt8), (8 : UInt8)].append [(8 : UInt8), (8 : UInt8), (8 : UInt8), (8 : UInt8), (8 : UInt8), (8 : UInt8), (8 : UInt8), (8 : UInt8), (8 : UInt8), (8 : UInt8), (8 : UInt8), (8 : UInt8), (8 : UInt8), (8 : UInt8), (8 : UInt8), (8 : UInt8), (8 : UInt8), (8 : UInt8), (8 : UInt8), (8 : UInt8), (8 : UInt8), (8 : UInt8), (8 : UInt8), (8 : UInt8), (8 : UInt8), (8 : UInt8), (8 : UInt8), (8 : UInt8), (8 : UInt8), (8 : UInt8), (8 : UInt8), (8 : UInt8), (8 : UInt8), (8 : UInt8), (8 : UInt8), (8 : UInt8), (8 : UInt8), (8 : UInt8), (8 : UInt8), (8 : UInt8), (8 : UInt8), (8 : UInt8), (8 : UInt8), (8 : UInt8), (8 : UInt8), (8 : UInt8), (8 : UInt8), (8 : UInt8), (8 : UInt8), (8 : UInt8), (8 : UInt8), (8 : UInt8), (8 : UInt8), (8 : UInt8), (8 : UInt8), (8 : UInt8), (8 : UInt8), (8 : UInt8), (8 : UInt8), (8 : UInt8), (8 : UInt8), (8 : UInt8), (8 : UInt8), (8 : UInt8)])).toArray)[(IntKind.u8.wrap (a0.fdiv ((2 : Int) ^ (16 : Nat)))).toNat]?.getD (0 : UInt8)).toNat : Int))) else none else none else bif decide (a0 ≥ (256 : Int)) then bif decide ((0 : Int) ≤ IntKind.u8.wrap (a0.fdiv ((2 : Int) ^ (8 : Nat)))) then bif (IntKind.u8.wrap (a0.fdiv ((2 : Int) ^ (8 : Nat)))).toNat.blt (256 : Nat) then some (IntKind.i64.wrap (IntKind.i64.wrap ((0 : Int) + (8 : Int)) + IntKind.i64.wrap (↑((ByteArray.mk (([(0 : UInt8), (1 : UInt8), (2 : UInt8), (2 : UInt8), (3 : UInt8), (3 : UInt8), (3 : UInt8), (3 : UInt8), (4 : UInt8), (4 : UInt8), (4 : UInt8), (4 : UInt8), (4 : UInt8), (4 : UInt8), (4 : UInt8), (4 : UInt8), (5 : UInt8), (5 : UInt8), (5 : UInt8), (5 : UInt8), (5 : UInt8), (5 : UInt8), (5 : UInt8), (5 : UInt8), (5 : UInt8), (5 : UInt8), (5 : UInt8), (5 : UInt8), (5 : UInt8), (5 : UInt8), (5 : UInt8), (5 : UInt8), (6 : UInt8), (6 : UInt8), (6 : UInt8), (6 : UInt8), (6 : UInt8), (6 : UInt8), (6 : UInt8), (6 : UInt8), (6 : UInt8), (6 : UInt8), (6 : UInt8), (6 : UInt8), (6 : UInt8), (6 : UInt8), (6 : UInt8), (6 : UInt8), (6 : UInt8), (6 : UInt8), (6 : UInt8), (6 : UInt8), (6 : UInt8), (6 : UInt8), (6 : UInt8), (6 : UInt8), (6 : UInt8), (6 : UInt8), (6 : UInt8), (6 : UInt8), (6 : UInt8), (6 : UInt8), (6 : UInt8), (6 : UInt8)].append [(7 : UInt8), (7 : UInt8), (7 : UInt8), (7 : UInt8), (7 : UInt8), (7 : UInt8), (7 : UInt8), (7 : UInt8), (7 : UInt8), (7 : UInt8), (7 : UInt8), (7 : UInt8), (7 : UInt8), (7 : UInt8), (7 : UInt8), (7 : UInt8), (7 : UInt8), (7 : UInt8), (7 : UInt8), (7 : UInt8), (7 : UInt8), (7 : UInt8), (7 : UInt8), (7 : UInt8), (7 : UInt8), (7 : UInt8), (7 : UInt8), (7 : UInt8), (7 : UInt8), (7 : UInt8), (7 : UInt8), (7 : UInt8), (7 : UInt8), (7 : UInt8), (7 : UInt8), (7 : UInt8), (7 : UInt8), (7 : UInt8), (7 : UInt8), (7 : UInt8), (7 : UInt8), (7 : UInt8), (7 : UInt8), (7 : UInt8), (7 : UInt8), (7 : UInt8), (7 : UInt8), (7 : UInt8), (7 : UInt8), (7 : UInt8), (7 : UInt8), (7 : UInt8), (7 : UInt8), (7 : UInt8), (7 : UInt8), (7 : UInt8), (7 : UInt8), (7 : UInt8), (7 : UInt8), (7 : UInt8), (7 : UInt8), (7 : UInt8), (7 : UInt8), (7 : UInt8)]).append ([(8 : UInt8), (8 : UInt8), (8 : UInt8), (8 : UInt8), (8 : UInt8), (8 : UInt8), (8 : UInt8), (8 : UInt8), (8 : UInt8), (8 : UInt8), (8 : UInt8), (8 : UInt8), (8 : UInt8), (8 : UInt8), (8 : UInt8), (8 : UInt8), (8 : UInt8), (8 : UInt8), (8 : UInt8), (8 : UInt8), (8 : UInt8), (8 : UInt8), (8 : UInt8), (8 : UInt8), (8 : UInt8), (8 : UInt8), (8 : UInt8), (8 : UInt8), (8 : UInt8), (8 : UInt8), (8 : UInt8), (8 : UInt8), (8 : UInt8), (8 : UInt8), (8 : UInt8), (8 : UInt8), (8 : UInt8), (8 : UInt8), (8 : UInt8), (8 : UInt8), (8 : UInt8), (8 : UInt8), (8 : UInt8), (8 : UInt8), (8 : UInt8), (8 : UInt8), (8 : UInt8), (8 : UInt8), (8 : UInt8), (8 : UInt8), (8 : UInt8), (8 : UInt8), (8 : UInt8), (8 : UInt8), (8 : UInt8), (8 : UInt8), (8 : UInt8), (8 : UInt8), (8 : UInt8), (8 : UInt8), (8 : UInt8), (8 : UInt8), (8 : UInt8), (8 : UInt8)].append [(8 : UInt8), (8 : UInt8), (8 : UInt8), (8 : UInt8), (8 : UInt8), (8 : UInt8), (8 : UInt8), (8 : UInt8), (8 : UInt8), (8 : UInt8), (8 : UInt8), (8 : UInt8), (8 : UInt8), (8 : UInt8), (8 : UInt8), (8 : UInt8), (8 : UInt8), (8 : UInt8), (8 : UInt8), (8 : UInt8), (8 : UInt8), (8 : UInt8), (8 : UInt8), (8 : UInt8), (8 : UInt8), (8 : UInt8), (8 : UInt8), (8 : UInt8), (8 : UInt8), (8 : UInt8), (8 : UInt8), (8 : UInt8), (8 : UInt8), (8 : UInt8), (8 : UInt8), (8 : UInt8), (8 : UInt8), (8 : UInt8), (8 : UInt8), (8 : UInt8), (8 : UInt8), (8 : UInt8), (8 : UInt8), (8 : UInt8), (8 : UInt8), (8 : UInt8), (8 : UInt8), (8 : UInt8), (8 : UInt8), (8 : UInt8), (8 : UInt8), (8 : UInt8), (8 : UInt8), (8 : UInt8), (8 : UInt8), (8 : UInt8), (8 : UInt8), (8 : UInt8), (8 : UInt8), (8 : UInt8), (8 : UInt8), (8 : UInt8), (8 : UInt8), (8 : UInt8)])).toArray)[(IntKind.u8.wrap (a0.fdiv ((2 : Int) ^ (8 : Nat)))).toNat]?.getD (0 : UInt8)).toNat : Int))) else none else none else bif decide ((0 : Int) ≤ IntKind.u8.wrap a0) then bif (IntKind.u8.wrap a0).toNat.blt (256 : Nat) then some (IntKind.i64.wrap ((0 : Int) + IntKind.i64.wrap (↑((ByteArray.mk (([(0 : UInt8), (1 : UInt8), (2 : UInt8), (2 : UInt8), (3 : UInt8), (3 : UInt8), (3 : UInt8), (3 : UInt8), (4 : UInt8), (4 : UInt8), (4 : UInt8), (4 : UInt8), (4 : UInt8), (4 : UInt8), (4 : UInt8), (4 : UInt8), (5 : UInt8), (5 : UInt8), (5 : UInt8), (5 : UInt8), (5 : UInt8), (5 : UInt8), (5 : UInt8), (5 : UInt8), (5 : UInt8), (5 : UInt8), (5 : UInt8), (5 : UInt8), (5 : UInt8), (5 : UInt8), (5 : UInt8), (5 : UInt8), (6 : UInt8), (6 : UInt8), (6 : UInt8), (6 : UInt8), (6 : UInt8), (6 : UInt8), (6 : UInt8), (6 : UInt8), (6 : UInt8), (6 : UInt8), (6 : UInt8), (6 : UInt8), (6 : UInt8), (6 : UInt8), (6 : UInt8), (6 : UInt8), (6 : UInt8), (6 : UInt8), (6 : UInt8), (6 : UInt8), (6 : UInt8), (6 : UInt8), (6 : UInt8), (6 : UInt8), (6 : UInt8), (6 : UInt8), (6 : UInt8), (6 : UInt8), (6 : UInt8), (6 : UInt8), (6 : UInt8), (6 : UInt8)].append [(7 : UInt8), (7 : UInt8), (7 : UInt8), (7 : UInt8), (7 : UInt8), (7 : UInt8), (7 : UInt8), (7 : UInt8), (7 : UInt8), (7 : UInt8), (7 : UInt8), (7 : UInt8), (7 : UInt8), (7 : UInt8), (7 : UInt8), (7 : UInt8), (7 : UInt8), (7 : UInt8), (7 : UInt8), (7 : UInt8), (7 : UInt8), (7 : UInt8), (7 : UInt8), (7 : UInt8), (7 : UInt8), (7 : UInt8), (7 : UInt8), (7 : UInt8), (7 : UInt8), (7 : UInt8), (7 : UInt8), (7 : UInt8), (7 : UInt8), (7 : UInt8), (7 : UInt8), (7 : UInt8), (7 : UInt8), (7 : UInt8), (7 : UInt8), (7 : UInt8), (7 : UInt8), (7 : UInt8), (7 : UInt8), (7 : UInt8), (7 : UInt8), (7 : UInt8), (7 : UInt8), (7 : UInt8), (7 : UInt8), (7 : UInt8), (7 : UInt8), (7 : UInt8), (7 : UInt8), (7 : UInt8), (7 : UInt8), (7 : UInt8), (7 : UInt8), (7 : UInt8), (7 : UInt8), (7 : UInt8), (7 : UInt8), (7 : UInt8), (7 : UInt8), (7 : UInt8)]).append ([(8 : UInt8), (8 : UInt8), (8 : UInt8), (8 : UInt8), (8 : UInt8), (8 : UInt8), (8 : UInt8), (8 : UInt8), (8 : UInt8), (8 : UInt8), (8 : UInt8), (8 : UInt8), (8 : UInt8), (8 : UInt8), (8 : UInt8), (8 : UInt8), (8 : UInt8), (8 : UInt8), (8 : UInt8), (8 : UInt8), (8 : UInt8), (8 : UInt8), (8 : UInt8), (8 : UInt8), (8 : UInt8), (8 : UInt8), (8 : UInt8), (8 : UInt8), (8 : UInt8), (8 : UInt8), (8 : UInt8), (8 : UInt8), (8 : UInt8), (8 : UInt8), (8 : UInt8), (8 : UInt8), (8 : UInt8), (8 : UInt8), (8 : UInt8), (8 : UInt8), (8 : UInt8), (8 : UInt8), (8 : UInt8), (8 : UInt8), (8 : UInt8), (8 : UInt8), (8 : UInt8), (8 : UInt8), (8 : UInt8), (8 : UInt8), (8 : UInt8), (8 : UInt8), (8 : UInt8), (8 : UInt8), (8 : UInt8), (8 : UInt8), (8 : UInt8), (8 : UInt8), (8 : UInt8), (8 : UInt8), (8 : UInt8), (8 : UInt8), (8 : UInt8), (8 : UInt8)].append [(8 : UInt8), (8 : UInt8), (8 : UInt8), (8 : UInt8), (8 : UInt8), (8 : UInt8), (8 : UInt8), (8 : UInt8), (8 : UInt8), (8 : UInt8), (8 : UInt8), (8 : UInt8), (8 : UInt8), (8 : UInt8), (8 : UInt8), (8 : UInt8), (8 : UInt8), (8 : UInt8), (8 : UInt8), (8 : UInt8), (8 : UInt8), (8 : UInt8), (8 : UInt8), (8 : UInt8), (8 : UInt8), (8 : UInt8), (8 : UInt8), (8 : UInt8), (8 : UInt8), (8 : UInt8), (8 : UInt8), (8 : UInt8), (8 : UInt8), (8 : UInt8), (8 : UInt8), (8 : UInt8), (8 : UInt8), (8 : UInt8), (8 : UInt8), (8 : UInt8), (8 : UInt8), (8 : UInt8), (8 : UInt8), (8 : UInt8), (8 : UInt8), (8 : UInt8), (8 : UInt8), (8 : UInt8), (8 : UInt8), (8 : UInt8), (8 : UInt8), (8 : UInt8), (8 : UInt8), (8 : UInt8), (8 : UInt8), (8 : UInt8), (8 : UInt8), (8 : UInt8), (8 : UInt8), (8 : UInt8), (8 : UInt8), (8 : UInt8), (8 : UInt8), (8 : UInt8)])).toArray)[(IntKind.u8.wrap a0).toNat]?.getD (0 : UInt8)).toNat : Int))) else none else none
noncomputable def F (K : Nat) : sig.In → Option (Int) := fun x => f K x.1
noncomputable def cv : sig.In → Int → sig.Ou := fun x r => (r, ())
noncomputable def LP {α : Type} (K : Nat) : LoopsBy α := noLoops
theorem eq (K : Nat) (a0 : Int) : runF M sig (C K) (eqBy M.P) (LP K) RF (CP K) 20 Tryz.f177 (bodyOf Tryz.f177) (a0, ()) = (f K a0).bind fun r => some (cv (a0, ()) r) := by
  unfold f
  try simp only [el]
  kernel_rfl
theorem rets (K : Nat) : ∀ x y, withCv (F K) cv x = some y → Rets M 177 sig x y := fun x y h => runF_rets (L := 20) (C_ok K) (eqBy_ok _) (by kernel_rfl) RF_ok (CP_ok K) (show LoopsOk M 0 (LP K) (loopsOf (bodyOf Tryz.f177)) from (show loopsOf (bodyOf Tryz.f177) = [] by kernel_rfl) ▸ noLoops_ok) (Nat.le_of_ble_eq_true rfl) Tryz.func177 (by kernel_rfl) ((eq K x.1).trans h)
end math_bits_Len32
namespace math_bits_Len64
/-! ### math_bits_Len64: function 178 -/
noncomputable def sig : Sig := ⟨(.ty (.int .u64)), [], (.ty yI), []⟩
noncomputable def RF : RefitBy := noRefit
theorem RF_ok : RefitOk M 0 RF := noRefit_ok
noncomputable def C {α : Type} (K : Nat) : CallsBy α := noCalls
theorem C_ok {α : Type} (K : Nat) : CallsOk (α := α) M (C K) := noCalls_ok
noncomputable def CP {α : Type} (K : Nat) : CutBy α := noCuts
theorem CP_ok {α : Type} (K : Nat)  : CutsOk (α := α) M 0 (CP K) := noCuts_ok
noncomputable def f (K : Nat) (a0 : Int) : Option (Int) := bif decide (a0 ≥ (4294967296 : Int)) then bif decide (a0.fdiv ((2 : Int) ^ (32 : Nat)) ≥ (65536 : Int)) then bif decide ((a0.fdiv ((2 : Int) ^ (32 : Nat))).fdiv ((2 : Int) ^ (16 : Nat)) ≥ (256 : Int)) then bif decide ((0 : Int) ≤ IntKind.u8.wrap (((a0.fdiv ((2 : Int) ^ (32 : Nat))).fdiv ((2 : Int) ^ (16 : Nat))).fdiv ((2 : Int) ^ (8 : Nat)))) then bif (IntKind.u8.wrap (((a0.fdiv ((2 : Int) ^ (32 : Nat))).fdiv ((2 : Int) ^ (16 : Nat))).fdiv ((2 : Int) ^ (8 : Nat)))).toNat.blt (256 : Nat) then some (IntKind.i64.wrap (IntKind.i64.wrap (IntKind.i64.wrap ((32 : Int) + (16 : Int)) + (8 : Int)) + IntKind.i64.wrap (↑((ByteArray.mk (([(0 : UInt8), (1 : UInt8), (2 : UInt8), (2 : UInt8), (3 : UInt8), (3 : UInt8), (3 : UInt8), (3 : UInt8), (4 : UInt8), (4 : UInt8), (4 : UInt8), (4 : UInt8), (4 : UInt8), (4 : UInt8), (4 : UInt8), (4 : UInt8), (5 : UInt8), (5 : UInt8), (5 : UInt8), (5 : UInt8), (5 : UInt8), (5 : UInt8), (5 : UInt8), (5 : UInt8), (5 : UInt8), (5 : UInt8), (5 : UInt8), (5 : UInt8), (5 : UInt8), (5 : UInt8), (5 : UInt8), (5 : UInt8), (6 : UInt8), (6 : UInt8), (6 : UInt8), (6 : UInt8), (6 : UInt8), (6 : UInt8), (6 : UInt8), (6 : UInt8), (6 : UInt8), (6 : UInt8), (6 : UInt8), (6 : UInt8), (6 : UInt8), (6 : UInt8), (6 : UInt8), (6 : UInt8), (6 : UInt8), (6 : UInt8), (6 : UInt8), (6 : UInt8), (6 : UInt8), (6 : UInt8), (6 : UInt8), (6 : UInt8), (6 : UInt8), (6 : UInt8), (6 : UInt8), (6 : UInt8), (6 : UInt8), (6 : UInt8), (6 : UInt8), (6 : UInt8)].append [(7 : UInt8), (7 : UInt8), (7 : UInt8), (7 : UInt8), (7 : UInt8), (7 : UInt8), (7 : UInt8), (7 : UInt8), (7 : UInt8), (7 : UInt8), (7 : UInt8), (7 : UInt8), (7 : UInt8), (7 : UInt8), (7 : UInt8), (7 : UInt8), (7 : UInt8), (7 : UInt8), (7 : UInt8), (7 : UInt8), (7 : UInt8), (7 : UInt8), (7 : UInt8), (7 : UInt8), (7 : UInt8), (7 : UInt8), (7 : UInt8), (7 : UInt8), (7 : UInt8), (7 : UInt8), (7 : UInt8), (7 : UInt8), (7 : UInt8), (7 : UInt8), (7 : UInt8), (7 : UInt8), (7 : UInt8), (7 : UInt8), (7 : UInt8), (7 : UInt8), (7 : UInt8), (7 : UInt8), (7 : UInt8), (7 : UInt8), (7 : UInt8), (7 : UInt8), (7 : UInt8), (7 : UInt8), (7 : UInt8), (7 : UInt8), (7 : UInt8), (7 : UInt8), (7 : UInt8), (7 : UInt8), (7 : UInt8), (7 : UInt8), (7 : UInt8), (7 : UInt8), (7 : UInt8), (7 : UInt8), (7 : UInt8), (7 : UInt8), (7 : UInt8), (7 : UInt8)]).append ([(8 : UInt8), (8 : UInt8), (8 : UInt8), (8 : UInt8), (8 : UInt8), (8 : UInt8), (8 : UInt8), (8 : UInt8), (8 : UInt8), (8 : UInt8), (8 : UInt8), (8 : UInt8), (8 : UInt8), (8 : UInt8), (8 : UInt8), (8 : UInt8), (8 : UInt8), (8 : UInt8), (8 : UInt8), (8 : UInt8), (8 : UInt8), (8 : UInt8), (8 : UInt8), (8 : UInt8), (8 : UInt8), (8 : UInt8), (8 : UInt8), (8 : UInt8), (8 : UInt8), (8 : UInt8), (8 : UInt8), (8 : UInt8), (8 : UInt8), (8 : UInt8), (8 : UInt8), (8 : UInt8), (8 : UInt8), (8 : UInt8), (8 : UInt8), (8 : UInt8), (8 : UInt8), (8 : UInt8), (8 : UInt8), (8 : UInt8), (8 : UInt8), (8 : UInt8), (8 : UInt8), (8 : UInt8), (8 : UInt8), (8 : UInt8), (8 : UInt8), (8 : UInt8), (8 : UInt8), (8 : UInt8), (8 : UInt8), (8 : UInt8), (8 : UInt8), (8 : UInt8), (8 : UInt8), (8 : UInt8), (8 : UInt8), (8 : UInt8), (8 : UInt8), (8 : UInt8)].append [(8 : UInt8), (8 : UInt8), (8 : UInt8), (8 : UInt8), (8 : UInt8), (8 : UInt8), (8 : UInt8), (8 : UInt8), (8 : UInt8), (8 : UInt8), (8 : UInt8), (8 : UInt8), (8 : UInt8), (8 : UInt8), (8 : UInt8), (8 : UInt8), (8 : UInt8), (8 : UInt8), (8 : UInt8), (8 : UInt8), (8 : UInt8), (8 : UInt8), (8 : UInt8), (8 : UInt8), (8 : UInt8), (8 : UInt8), (8 : UInt8), (8 : UInt8), (8 : UInt8), (8 : UInt8), (8 : UInt8), (8 : UInt8), (8 : UInt8), (8 : UInt8), (8 : UInt8), (8 : UInt8), (8 : UInt8), (8 : UInt8), (8 : UInt8), (8 : UInt8), (8 : UInt8), (8 : UInt8), (8 : UInt8), (8 : UInt8), (8 : UInt8), (8 : UInt8), (8 : UInt8), (8 : UInt8), (8 : UInt8), (8 : UInt8), (8 : UInt8), (8 : UInt8), (8 : UInt8), (8 : UInt8), (8 : UInt8), (8 : UInt8), (8 : UInt8), (8 : UInt8), (8 : UInt8), (8 : UInt8), (8 : UInt8), (8 : UInt8), (8 : UInt8), (8 : UInt8)])).toArray)[(IntKind.u8.wrap (((a0.fdiv ((2 : Int) ^ (32 : Nat))).fdiv ((2 : Int) ^ (16 : Nat))).fdiv ((2 : Int) ^ (8 : Nat)))).toNat]?.getD (0 : UInt8)).toNat : Int))) else none else none else bif decide ((0 : Int) ≤ IntKind.u8.wrap ((a0.fdiv ((2 : Int) ^ (32 : Nat))).fdiv ((2 : Int) ^ (16 : Nat)))) then bif (IntKind.u8.wrap ((a0.fdiv ((2 : Int) ^ (32 : Nat))).fdiv ((2 : Int) ^ (16 : Nat)))).toNat.blt (256 : Nat) then some (IntKind.i64.wrap (IntKind.i64.wrap ((32 : Int) + (16 : Int)) + IntKind.i64.wrap (↑((ByteArray.mk (([(0 : UInt8), (1 : UInt8), (2 : UInt8), (2 : UInt8), (3 : UInt8), (3 : UInt8), (3 : UInt8), (3 : UInt8), (4 : UInt8), (4 : UInt8), (4 : UInt8), (4 : UInt8), (4 : UInt8), (4 : UInt8), (4 : UInt8), (4 : UInt8), (5 : UInt8), (5 : UInt8), (5 : UInt8), (5 : UInt8), (5 : UInt8), (5 : UInt8), (5 : UInt8), (5 : UInt8), (5 : UInt8), (5 : UInt8), (5 : UInt8), (5 : UInt8), (5 : UInt8), (5 : UInt8), (5 : UInt8), (5 : UInt8), (6 : UInt8), (6 : UInt8), (6 : UInt8), (6 : UInt8), (6 : UInt8), (6 : UInt8), (6 : UInt8), (6 : UInt8), (6 : UInt8), (6 : UInt8), (6 : UInt8), (6 : UInt8), (6 : UInt8), (6 : UInt8), (6 : UInt8), (6 : UInt8), (6 : UInt8), (6 : UInt8), (6 : UInt8), (6 : UInt8), (6 : UInt8), (6 : UInt8), (6 : UInt8), (6 : UInt8), (6 : UInt8), (6 : UInt8), (6 : UInt8), (6 : UInt8), (6 : UInt8), (6 : UInt8), (6 : UInt8), (6 : UInt8)].append [(7 : UInt8), (7 : UInt8), (7 : UInt8), (7 : UInt8), (7 : UInt8), (7 : UInt8), (7 : UInt8), (7 : UInt8), (7 : UInt8), (7 : UInt8), (7 : UInt8), (7 : UInt8), (7 : UInt8), (7 : UInt8), (7 : UInt8), (7 : UInt8), (7 : UInt8), (7 : UInt8), (7 : UInt8), (7 : UInt8), (7 : UInt8), (7 : UInt8), (7 : UInt8), (7 : UInt8), (7 : UInt8), (7 : UInt8), (7 : UInt8), (7 : UInt8), (7 : UInt8), (7 : UInt8), (7 : UInt8), (7 : UInt8), (7 : UInt8), (7 : UInt8), (7 : UInt8), (7 : UInt8), (7 : UInt8), (7 : UInt8), (7 : UInt8), (7 : UInt8), (7 : UInt8), (7 : UInt8), (7 : UInt8), (7 : UInt8), (7 : UInt8), (7 : UInt8), (7 : UInt8), (7 : UInt8), (7 : UInt8), (7 : UInt8), (7 : UInt8), (7 : UInt8), (7 : UInt8), (7 : UInt8), (7 : UInt8), (7 : UInt8), (7 : UInt8), (7 : UInt8), (7 : UInt8), (7 : UInt8), (7 : UInt8), (7 : UInt8), (7 : UInt8), (7 : UInt8)]).append ([(8 : UInt8), (8 : UInt8), (8 : UInt8), (8 : UInt8), (8 : UInt8), (8 : UInt8), (8 : UInt8), (8 : UInt8), (8 : UInt8), (8 : UInt8), (8 : UInt8), (8 : UInt8), (8 : UInt8), (8 : UInt8), (8 : UInt8), (8 : UInt8), (8 : UInt8), (8 : UInt8), (8 : UInt8), (8 : UInt8), (8 : UInt8), (8 : UInt8), (8 : UInt8), (8 : UInt8), (8 : UInt8), (8 : UInt8), (8 : UInt8), (8 : UInt8), (8 : UInt8), (8 : UInt8), (8 : UInt8), (8 : UInt8), (8 : UInt8), (8 : UInt8), (8 : UInt8), (8 : UInt8), (8 : UInt8), (8 : UInt8), (8 : UInt8), (8 : UInt8), (8 : UInt8), (8 : UInt8), (8 : UInt8), (8 : UInt8), (8 : UInt8), (8 : UInt8), (8 : UInt8), (8 : UInt8), (8 : UInt8), (8 : UInt8), (8 : UInt8), (8 : UInt8), (8 : UInt8), (8 : UInt8), (8 : UInt8), (8 : UInt8), (8 : UInt8), (8 : UInt8), (8 : UInt8), (8 : UInt8), (8 : UInt8), (8 : UInt8), (8 : UInt8), (8 : UInt8)].append [(8 : UInt8), (8 : UInt8), (8 : UInt8), (8 : UInt8), (8 : UInt8), (8 : UInt8), (8 : UInt8), (8 : UInt8), (8 : UInt8), (8 : UInt8), (8 : UInt8), (8 : UInt8), (8 : UInt8), (8 : UInt8), (8 : UInt8), (8 : UInt8), (8 : UInt8), (8 : UInt8), (8 : UInt8), (8 : UInt8), (8 : UInt8), (8 : UInt8), (8 : UInt8), (8 : UInt8), (8 : UInt8), (8 : UInt8), (8 : UInt8), (8 : UInt8), (8 : UInt8), (8 : UInt8), (8 : UInt8), (8 : UInt8), (8 : UInt8), (8 : UInt8), (8 : UInt8), (8 : UInt8), (8 : UInt8), (8 : UInt8), (8 : UInt8), (8 : UInt8), (8 : UInt8), (8 : UInt8), (8 : UInt8), (8 : UInt8), (8 : UInt8), (8 : UInt8), (8 : UInt8), (8 : UInt8), (8 : UInt8), (8 : UInt8), (8 : UInt8), (8 : UInt8), (8 : UInt8), (8 : UInt8), (8 : UInt8), (8 : UInt8), (8 : UInt8), (8 : UInt8), (8 : UInt8), (8 : UInt8), (8 : UInt8), (8 : UInt8), (8 : UInt8), (8 : UInt8)])).toArray)[(IntKind.u8.wrap ((a0.fdiv ((2 : Int) ^ (32 : Nat))).fdiv ((2 : Int) ^ (16 : Nat)))).toNat]?.getD (0 : UInt8)).toNat : Int))) else none else none else bif decide (a0.fdiv ((2 : Int) ^ (32 : Nat)) ≥ (256 : Int)) then bif decide ((0 : Int) ≤ IntKind.u8.wrap ((a0.fdiv ((2 : Int) ^ (32 : Nat))).fdiv ((2 : Int) ^ (8 : Nat)))) then bif (IntKind.u8.wrap ((a0.fdiv ((2 : Int) ^ (32 : Nat))).fdiv ((2 : Int) ^ (8 : Nat)))).toNat.blt (256 : Nat) then some (IntKind.i64.wrap (IntKind.i64.wrap ((32 : Int) + (8 : Int)) + IntKind.i64.wrap (↑((ByteArray.mk (([(0 : UInt8), (1 : UInt8), (2 : UInt8), (2 : UInt8), (3 : UInt8), (3 : UInt8), (3 : UInt8), (3 : UInt8), (4 : UInt8), (4 : UInt8), (4 : UInt8), (4 : UInt8), (4 : UInt8), (4 : UInt8), (4 : UInt8), (4 : UInt8), (5 : UInt8), (5 : UInt8), (5 : UInt8), (5 : UInt8), (5 : UInt8), (5 : UInt8), (5 : UInt8), (5 : UInt8), (5 : UInt8), (5 : UInt8), (5 : UInt8), (5 : UInt8), (5 : UInt8), (5 : UInt8), (5 : UInt8), (5 : UInt8), (6 : UInt8), (6 : UInt8), (6 : UInt8), (6 : UInt8), (6 : UInt8), (6 : UInt8), (6 : UInt8), (6 : UInt8), (6 : UInt8), (6 : UInt8), (6 : UInt8), (6 : UInt8), (6 : UInt8), (6 : UInt8), (6 : UInt8), (6 : UInt8), (6 : UInt8), (6 : UInt8), (6 : UInt8), (6 : UInt8), (6 : UInt8), (6 : UInt8), (6 : UInt8), (6 : UInt8), (6 : UInt8), (6 : UInt8), (6 : UInt8), (6 : UInt8), (6 : UInt8), (6 : UInt8), (6 : UInt8), (6 : UInt8)].append [(7 : UInt8), (7 : UInt8), (7 : UInt8), (7 : UInt8), (7 : UInt8), (7 : UInt8), (7 : UInt8), (7 : UInt8), (7 : UInt8), (7 : UInt8), (7 : UInt8), (7 : UInt8), (7 : UInt8), (7 : UInt8), (7 : UInt8), (7 : UInt8), (7 : UInt8), (7 : UInt8), (7 : UInt8), (7 : UInt8), (7 : UInt8), (7 : UInt8), (7 : UInt8), (7 : UInt8), (7 : UInt8), (7 : UInt8), (7 : UInt8), (7 : UInt8), (7 : UInt8), (7 : UInt8), (7 : UInt8), (7 : UInt8), (7 : UInt8), (7 : UInt8), (7 : UInt8), (7 : UInt8), (7 : UInt8), (7 : UInt8), (7 : UInt8), (7 : UInt8), (7 : UInt8), (7 : UInt8), (7 : UInt8), (7 : UInt8), (7 : UInt8), (7 : UInt8), (7 : UInt8), (7 : UInt8), (7 : UInt8), (7 : UInt8), (7 : UInt8), (7 : UInt8), (7 : UInt8), (7 : UInt8), (7 : UInt8), (7 : UInt8), (7 : UInt8), (7 : UInt8), (7 : UInt8), (7 : UInt8), (7 : UInt8), (7 : UInt8), (7 : UInt8), (7 : UInt8)]).append ([(8 : UInt8), (8 : UInt8), (8 : UInt8), (8 : UInt8), (8 : UInt8), (8 : UInt8), (8 : UInt8), (8 : UInt8), (8 : UInt8), (8 : UInt8), (8 : UInt8), (8 : UInt8), (8 : UInt8), (8 : UInt8), (8 : UInt8), (8 : UInt8), (8 : UInt8), (8 : UInt8), (8 : UInt8), (8 : UInt8), (8 : UInt8), (8 : UInt8), (8 : UInt8), (8 : UInt8), (8 : UInt8), (8 : UInt8), (8 : UInt8), (8 : UInt8), (8 : UInt8), (8 : UInt8), (8 : UInt8), (8 : UInt8), (8 : UInt8), (8 : UInt8), (8 : UInt8), (8 : UInt8), (8 : UInt8), (8 : UInt8), (8 : UInt8), (8 : UInt8), (8 : UInt8), (8 : UInt8), (8 : UInt8), (8 : UInt8), (8 : UInt8), (8 : UInt8), (8 : UInt8), (8 : UInt8), (8 : UInt8), (8 : UInt8), (8 : UInt8), (8 : UInt8), (8 : UInt8), (8 : UInt8), (8 : UInt8), (8 : UInt8), (8 : UInt8), (8 : UInt8), (8 : UInt8), (8 : UInt8), (8 : UInt8), (8 : UInt8), (8 : UInt8), (8 : UInt8)].append [(8 : UInt8), (8 : UInt8), (8 : UInt8), (8 : UInt8), (8 : UInt8), (8 : UInt8), (8 : UInt8), (8 : UInt8), (8 : UInt8), (8 : UInt8), (8 : UInt8), (8 : UInt8), (8 : UInt8), (8 : UInt8), (8 : UInt8), (8 : UInt8), (8 : UInt8), (8 : UInt8), (8 : UInt8), (8 : UInt8), (8 : UInt8), (8 : UInt8), (8 : UInt8), (8 : UInt8), (8 : UInt8), (8 : UInt8), (8 : UInt8), (8 : UInt8), (8 : UInt8), (8 : UInt8), (8 : UInt8), (8 : UInt8), (8 : UInt8), (8 : UInt8), (8 : UInt8), (8 : UInt8), (8 : UInt8), (8 : UInt8), (8 : UInt8), (8 : UInt8), (8 : UInt8), (8 : UInt8), (8 : UInt8), (8 : UInt8), (8 : UInt8), (8 : UInt8), (8 : UInt8), (8 : UInt8), (8 : UInt8), (8 : UInt8), (8 : UInt8), (8 : UInt8), (8 : UInt8), (8 : UInt8), (8 : UInt8), (8 : UInt8), (8 : UInt8), (8 : UInt8), (8 : UInt8), (8 : UInt8), (8 : UInt8), (8 : UInt8), (8 : UInt8), (8 : UInt8)])).toArray)[(IntKind.u8.wrap ((a0.fdiv ((2 : Int) ^ (32 : Nat))).fdiv ((2 : Int) ^ (8 : Nat)))).toNat]?.getD (0 : UInt8)).toNat : Int))) else none else none else bif decide ((0 : Int) ≤ IntKind.u8.wrap (a0.fdiv ((2 : Int) ^ (32 : Nat)))) then bif (IntKind.u8.wrap (a0.fdiv ((2 : Int) ^ (32 : Nat)))).toNat.blt (256 : Nat) then some (IntKind.i64.wrap ((32 : Int) + IntKind.i64.wrap (↑((ByteArray.mk (([(0 : UInt8), (1 : UInt8), (2 : UInt8), (2 : UInt8), (3 : UInt8), (3 : UInt8), (3 : UInt8), (3 : UInt8), (4 : UInt8), (4 : UInt8), (4 : UInt8), (4 : UInt8), (4 : UInt8), (4 : UInt8), (4 : UInt8), (4 : UInt8), (5 : UInt8), (5 : UInt8), (5 : UInt8), (5 : UInt8), (5 : UInt8), (5 : UInt8), (5 : UInt8), (5 : UInt8), (5 : UInt8), (5 : UInt8), (5 : UInt8), (5 : UInt8), (5 : UInt8), (5 : UInt8), (5 : UInt8), (5 : UInt8), (6 : UInt8), (6 : UInt8), (6 : UInt8), (6 : UInt8), (6 : UInt8), (6 : UInt8), (6 : UInt8), (6 : UInt8), (6 : UInt8), (6 : UInt8), (6 : UInt8), (6 : UInt8), (6 : UInt8), (6 : UInt8), (6 : UInt8), (6 : UInt8), (6 : UInt8), (6 : UInt8), (6 : UInt8), (6 : UInt8), (6 : UInt8), (6 : UInt8), (6 : UInt8), (6 : UInt8), (6 : UInt8), (6 : UInt8), (6 : UInt8), (6 : UInt8), (6 : UInt8), (6 : UInt8), (6 : UInt8), (6 : UInt8)].append [(7 : UInt8), (7 : UInt8), (7 : UInt8), (7 : UInt8), (7 : UInt8), (7 : UInt8), (7 : UInt8), (7 : UInt8), (7 : UInt8), (7 : UInt8), (7 : UInt8), (7 : UInt8), (7 : UInt8), (7 : UInt8), (7 : UInt8), (7 : UInt8), (7 : UInt8), (7 : UInt8), (7 : UInt8), (7 : UInt8), (7 : UInt8), (7 : UInt8), (7 : UInt8), (7 : UInt8), (7 : UInt8), (7 : UInt8), (7 : UInt8), (7 : UInt8), (7 : UInt8), (7 : UInt8), (7 : UInt8), (7 : UInt8), (7 : UInt8), (7 : UInt8), (7 : UInt8), (7 : UInt8), (7 : UInt8), (7 : UInt8), (7 : UInt8), (7 : UInt8), (7 : UInt8), (7 : UInt8), (7 : UInt8), (7 : UInt8), (7 : UInt8), (7 : UInt8), (7 : UInt8), (7 : UInt8), (7 : UInt8), (7 : UInt8), (7 : UInt8), (7 : UInt8), (7 : UInt8), (7 : UInt8), (7 : UInt8), (7 : UInt8), (7 : UInt8), (7 : UInt8), (7 : UInt8), (7 : UInt8), (7 : UInt8), (7 : UInt8), (7 : UInt8), (7 : UInt8)]).append ([(8 : UInt8), (8 : UInt8), (8 : UInt8), (8 : UInt8), (8 : UInt8), (8 : UInt8), (8 : UInt8), (8 : UInt8), (8 : UInt8), (8 : UInt8), (8 : UInt8), (8 : UInt8), (8 : UInt8), (8 : UInt8), (8 : UInt8), (8 : UInt8), (8 : UInt8), (8 : UInt8), (8 : UInt8), (8 : UInt8), (8 : UInt8), (8 : UInt8), (8 : UInt8), (8 : UInt8), (8 : UInt8), (8 : UInt8), (8 : UInt8), (8 : UInt8), (8 : UInt8), (8 : UInt8), (8 : UInt8), (8 : UInt8), (8 : UInt8), (8 : UInt8), (8 : UInt8), (8 : UInt8), (8 : UInt8), (8 : UInt8), (8 : UInt8), (8 : UInt8), (8 : UInt8), (8 : UInt8), (8 : UInt8), (8 : UInt8), (8 : UInt8), (8 : UInt8), (8 : UInt8), (8 : UInt8), (8 : UInt8), (8 : UInt8), (8 : UInt8), (8 : UInt8), (8 : UInt8), (8 : UInt8), (8 : UInt8), (8 : UInt8), (8 : UInt8), (8 : UInt8), (8 : UInt8), (8 : UInt8), (8 : UInt8), (8 : UInt8), (8 : UInt8), (8 : UInt8)].append [(8 : UInt8), (8 : UInt8), (8 : UInt8), (8 : UInt8), (8 : UInt8), (8 : UInt8), (8 : UInt8), (8 : UInt8), (8 : UInt8), (8 : UInt8), (8 : UInt8), (8 : UInt8), (8 : UInt8), (8 : UInt8), (8 : UInt8), (8 : UInt8), (8 : UInt8), (8 : UInt8), (8 : UInt8), (8 : UInt8), (8 : UInt8), (8 : UInt8), (8 : UInt8), (8 : UInt8), (8 : UInt8), (8 : UInt8), (8 : UInt8), (8 : UInt8), (8 : UInt8), (8 : UInt8), (8 : UInt8), (8 : UInt8), (8 : UInt8), (8 : UInt8), (8 : UInt8), (8 : UInt8), (8 : UInt8), (8 : UInt8), (8 : UInt8), (8 : UInt8), (8 : UInt8), (8 : UInt8), (8 : UInt8), (8 : UInt8), (8 : UInt8), (8 : UInt8), (8 : UInt8), (8 : UInt8), (8 : UInt8), (8 : UInt8), (8 : UInt8), (8 : UInt8), (8 : UInt8), (8 : UInt8), (8 : UInt8), (8 : UInt8), (8 : UInt8), (8 : UInt8), (8 : UInt8), (8 : UInt8), (8 : UInt8), (8 : UInt8), (8 : UInt8), (8 : UInt8)])).toArray)[(IntKind.u8.wrap (a0.fdiv ((2 : Int) ^ (32 : Nat)))).toNat]?.getD (0 : UInt8)).toNat : Int))) else none else none
else bif decide (a0 ≥ (65536 : Int)) then bif decide (a0.fdiv ((2 : Int) ^ (16 : Nat)) ≥ (256 : Int)) then bif decide ((0 : Int) ≤ IntKind.u8.wrap ((a0.fdiv ((2 : Int) ^ (16 : Nat))).fdiv ((2 : Int) ^ (8 : Nat)))) then bif (IntKind.u8.wrap ((a0.fdiv ((2 : Int) ^ (16 : Nat))).fdiv ((2 : Int) ^ (8 : Nat)))).toNat.blt (256 : Nat) then some (IntKind.i64.wrap (IntKind.i64.wrap (IntKind.i64.wrap ((0 : Int) + (16 : Int)) + (8 : Int)) + IntKind.i64.wrap (↑((ByteArray.mk (([(0 : UInt8), (1 : UInt8), (2 : UInt8), (2 : UInt8), (3 : UInt8), (3 : UInt8), (3 : UInt8), (3 : UInt8), (4 : UInt8), (4 : UInt8), (4 : UInt8), (4 : UInt8), (4 : UInt8), (4 : UInt8), (4 : UInt8), (4 : UInt8), (5 : UInt8), (5 : UInt8), (5 : UInt8), (5 : UInt8), (5 : UInt8), (5 : UInt8), (5 : UInt8), (5 : UInt8), (5 : UInt8), (5 : UInt8), (5 : UInt8), (5 : UInt8), (5 : UInt8), (5 : UInt8), (5 : UInt8), (5 : UInt8), (6 : UInt8), (6 : UInt8), (6 : UInt8), (6 : UInt8), (6 : UInt8), (6 : UInt8), (6 : UInt8), (6 : UInt8), (6 : UInt8), (6 : UInt8), (6 : UInt8), (6 : UInt8), (6 : UInt8), (6 : UInt8), (6 : UInt8), (6 : UInt8), (6 : UInt8), (6 : UInt8), (6 : UInt8), (6 : UInt8), (6 : UInt8), (6 : UInt8), (6 : UInt8), (6 : UInt8), (6 : UInt8), (6 : UInt8), (6 : UInt8), (6 : UInt8), (6 : UInt8), (6 : UInt8), (6 : UInt8), (6 : UInt8)].append [(7 : UInt8), (7 : UInt8), (7 : UInt8), (7 : UInt8), (7 : UInt8), (7 : UInt8), (7 : UInt8), (7 : UInt8), (7 : UInt8), (7 : UInt8), (7 : UInt8), (7 : UInt8), (7 : UInt8), (7 : UInt8), (7 : UInt8), (7 : UInt8), (7 : UInt8), (7 : UInt8), (7 : UInt8), (7 : UInt8), (7 : UInt8), (7 : UInt8), (7 : UInt8), (7 : UInt8), (7 : UInt8), (7 : UInt8), (7 : UInt8), (7 : UInt8), (7 : UInt8), (7 : UInt8), (7 : UInt8), (7 : UInt8), (7 : UInt8), (7 : UInt8), (7 : UInt8), (7 : UInt8), (7 : UInt8), (7 : UInt8), (7 : UInt8), (7 : UInt8), (7 : UInt8), (7 : UInt8), (7 : UInt8), (7 : UInt8), (7 : UInt8), (7 : UInt8), (7 : UInt8), (7 : UInt8), (7 : UInt8), (7 : UInt8), (7 : UInt8), (7 : UInt8), (7 : UInt8), (7 : UInt8), (7 : UInt8), (7 : UInt8), (7 : UInt8), (7 : UInt8), (7 : UInt8), (7 : UInt8), (7 : UInt8), (7 : UInt8), (7 : UInt8), (7 : UInt8)]).append ([(8 : UInt8), (8 : UInt8), (8 : UInt8), (8 : UInt8), (8 : UInt8), (8 : UInt8), (8 : UInt8), (8 : UInt8), (8 : UInt8), (8 : UInt8), (8 : UInt8), (8 : UInt8), (8 : UInt8), (8 : UInt8), (8 : UInt8), (8 : UInt8), (8 : UInt8), (8 : UInt8), (8 : UInt8), (8 : UInt8), (8 : UInt8), (8 : UInt8), (8 : UInt8), (8 : UInt8), (8 : UInt8), (8 : UInt8), (8 : UInt8), (8 : UInt8), (8 : UInt8), (8 : UInt8), (8 : UInt8), (8 : UInt8), (8 : UInt8), (8 : UInt8), (8 : UInt8), (8 : UInt8), (8 : UInt8), (8 : UInt8), (8 : UInt8), (8 : UInt8), (8 : UInt8), (8 : UInt8), (8 : UInt8), (8 : UInt8), (8 : UInt8), (8 : UInt8), (8 : UInt8), (8 : UInt8), (8 : UInt8), (8 : UInt8), (8 : UInt8), (8 : UInt8), (8 : UInt8), (8 : UInt8), (8 : UInt8), (8 : UInt8), (8 : UInt8), (8 : UInt8), (8 : UInt8), (8 : UInt8), (8 : UInt8), (8 : UInt8), (8 : UInt8), (8 : UInt8)].append [(8 : UInt8), (8 : UInt8), (8 : UInt8), (8 : UInt8), (8 : UInt8), (8 : UInt8), (8 : UInt8), (8 : UInt8), (8 : UInt8), (8 : UInt8), (8 : UInt8), (8 : UInt8), (8 : UInt8), (8 : UInt8), (8 : UInt8), (8 : UInt8), (8 : UInt8), (8 : UInt8), (8 : UInt8), (8 : UInt8), (8 : UInt8), (8 : UInt8), (8 : UInt8), (8 : UInt8), (8 : UInt8), (8 : UInt8), (8 : UInt8), (8 : UInt8), (8 : UInt8), (8 : UInt8), (8 : UInt8), (8 : UInt8), (8 : UInt8), (8 : UInt8), (8 : UInt8), (8 : UInt8), (8 : UInt8), (8 : UInt8), (8 : UInt8), (8 : UInt8), (8 : UInt8), (8 : UInt8), (8 : UInt8), (8 : UInt8), (8 : UInt8), (8 : UInt8), (8 : UInt8), (8 : UInt8), (8 : UInt8), (8 : UInt8), (8 : UInt8), (8 : UInt8), (8 : UInt8), (8 : UInt8), (8 : UInt8), (8 : UInt8), (8 : UInt8), (8 : UInt8), (8 : UInt8), (8 : UInt8), (8 : UInt8), (8 : UInt8), (8 : UInt8), (8 : UInt8)])).toArray)[(IntKind.u8.wrap ((a0.fdiv ((2 : Int) ^ (16 : Nat))).fdiv ((2 : Int) ^ (8 : Nat)))).toNat]?.getD (0 : UInt8)).toNat : Int))) else none else none else bif decide ((0 : Int) ≤ IntKind.u8.wrap (a0.fdiv ((2 : Int) ^ (16 : Nat)))) then bif (IntKind.u8.wrap (a0.fdiv ((2 : Int) ^ (16 : Nat)))).toNat.blt (256 : Nat) then some (IntKind.i64.wrap (IntKind.i64.wrap ((0 : Int) + (16 : Int)) + IntKind.i64.wrap (↑((ByteArray.mk (([(0 : UInt8), (1 : UInt8), (2 : UInt8), (2 : UInt8), (3 : UInt8), (3 : UInt8), (3 : UInt8), (3 : UInt8), (4 : UInt8), (4 : UInt8), (4 : UInt8), (4 : UInt8), (4 : UInt8), (4 : UInt8), (4 : UInt8), (4 : UInt8), (5 : UInt8), (5 : UInt8), (5 : UInt8), (5 : UInt8), (5 : UInt8), (5 : UInt8), (5 : UInt8), (5 : UInt8), (5 : UInt8), (5 : UInt8), (5 : UInt8), (5 : UInt8), (5 : UInt8), (5 : UInt8), (5 : UInt8), (5 : UInt8), (6 : UInt8), (6 : UInt8), (6 : UInt8), (6 : UInt8), (6 : UInt8), (6 : UInt8), (6 : UInt8), (6 : UInt8), (6 : UInt8), (6 : UInt8), (6 : UInt8), (6 : UInt8), (6 : UInt8), (6 : UInt8), (6 : UInt8), (6 : UInt8), (6 : UInt8), (6 : UInt8), (6 : UInt8), (6 : UInt8), (6 : UInt8), (6 : UInt8), (6 : UInt8), (6 : UInt8), (6 : UInt8), (6 : UInt8), (6 : UInt8), (6 : UInt8), (6 : UInt8), (6 : UInt8), (6 : UInt8), (6 : UInt8)].append [(7 : UInt8), (7 : UInt8), (7 : UInt8), (7 : UInt8), (7 : UInt8), (7 : UInt8), (7 : UInt8), (7 : UInt8), (7 : UInt8), (7 : UInt8), (7 : UInt8), (7 : UInt8), (7 : UInt8), (7 : UInt8), (7 : UInt8), (7 : UInt8), (7 : UInt8), (7 : UInt8), (7 : UInt8), (7 : UInt8), (7 : UInt8), (7 : UInt8), (7 : UInt8), (7 : UInt8), (7 : UInt8), (7 : UInt8), (7 : UInt8), (7 : UInt8), (7 : UInt8), (7 : UInt8), (7 : UInt8), (7 : UInt8), (7 : UInt8), (7 : UInt8), (7 : UInt8), (7 : UInt8), (7 : UInt8), (7 : UInt8), (7 : UInt8), (7 : UInt8), (7 : UInt8), (7 : UInt8), (7 : UInt8), (7 : UInt8), (7 : UInt8), (7 : UInt8), (7 : UInt8), (7 : UInt8), (7 : UInt8), (7 : UInt8), (7 : UInt8), (7 : UInt8), (7 : UInt8), (7 : UInt8), (7 : UInt8), (7 : UInt8), (7 : UInt8), (7 : UInt8), (7 : UInt8), (7 : UInt8), (7 : UInt8), (7 : UInt8), (7 : UInt8), (7 : UInt8)]).append ([(8 : UInt8), (8 : UInt8), (8 : UInt8), (8 : UInt8), (8 : UInt8), (8 : UInt8), (8 : UInt8), (8 : UInt8), (8 : UInt8), (8 : UInt8), (8 : UInt8), (8 : UInt8), (8 : UInt8), (8 : UInt8), (8 : UInt8), (8 : UInt8), (8 : UInt8), (8 : UInt8), (8 : UInt8), (8 : UInt8), (8 : UInt8), (8 : UInt8), (8 : UInt8), (8 : UInt8), (8 : UInt8), (8 : UInt8), (8 : UInt8), (8 : UInt8), (8 : UInt8), (8 : UInt8), (8 : UInt8), (8 : UInt8), (8 : UInt8), (8 : UInt8), (8 : UInt8), (8 : UInt8), (8 : UInt8), (8 : UInt8), (8 : UInt8), (8 : UInt8), (8 : UInt8), (8 : UInt8), (8 : UInt8), (8 : UInt8), (8 : UInt8), (8 : UInt8), (8 : UInt8), (8 : UInt8), (8 : UInt8), (8 : UInt8), (8 : UInt8), (8 : UInt8), (8 : UInt8), (8 : UInt8), (8 : UInt8), (8 : UInt8), (8 : UInt8), (8 : UInt8), (8 : UInt8), (8 : UInt8), (8 : UInt8), (8 : UInt8), (8 : UInt8), (8 : UInt8)].append [(8 : UInt8), (8 : UInt8), (8 : UInt8), (8 : UInt8), (8 : UInt8), (8 : UInt8), (8 : UInt8), (8 : UInt8), (8 : UInt8), (8 : UInt8), (8 : UInt8), (8 : UInt8), (8 : UInt8), (8 : UInt8), (8 : UInt8), (8 : UInt8), (8 : UInt8), (8 : UInt8), (8 : UInt8), (8 : UInt8), (8 : UInt8), (8 : UInt8), (8 : UInt8), (8 : UInt8), (8 : UInt8), (8 : UInt8), (8 : UInt8), (8 : UInt8), (8 : UInt8), (8 : UInt8), (8 : UInt8), (8 : UInt8), (8 : UInt8), (8 : UInt8), (8 : UInt8), (8 : UInt8), (8 : UInt8), (8 : UInt8), (8 : UInt8), (8 : UInt8), (8 : UInt8), (8 : UInt8), (8 : UInt8), (8 : UInt8), (8 : UInt8), (8 : UInt8), (8 : UInt8), (8 : UInt8), (8 : UInt8), (8 : UInt8), (8 : UInt8), (8 : UInt8), (8 : UInt8), (8 : UInt8), (8 : UInt8), (8 : UInt8), (8 : UInt8), (8 : UInt8), (8 : UInt8), (8 : UInt8), (8 : UInt8), (8 : UInt8), (8 : UInt8), (8 : UInt8)])).toArray)[(IntKind.u8.wrap (a0.fdiv ((2 : Int) ^ (16 : Nat)))).toNat]?.getD (0 : UInt8)).toNat : Int))) else none else none else bif decide (a0 ≥ (256 : Int)) then bif decide ((0 : Int) ≤ IntKind.u8.wrap (a0.fdiv ((2 : Int) ^ (8 : Nat)))) then bif (IntKind.u8.wrap (a0.fdiv ((2 : Int) ^ (8 : Nat)))).toNat.blt (256 : Nat) then some (IntKind.i64.wrap (IntKind.i64.wrap ((0 : Int) + (8 : Int)) + IntKind.i64.wrap (↑((ByteArray.mk (([(0 : UInt8), (1 : UInt8), (2 : UInt8), (2 : UInt8), (3 : UInt8), (3 : UInt8), (3 : UInt8), (3 : UInt8), (4 : UInt8), (4 : UInt8), (4 : UInt8), (4 : UInt8), (4 : UInt8), (4 : UInt8), (4 : UInt8), (4 : UInt8), (5 : UInt8), (5 : UInt8), (5 : UInt8), (5 : UInt8), (5 : UInt8), (5 : UInt8), (5 : UInt8), (5 : UInt8), (5 : UInt8), (5 : UInt8), (5 : UInt8), (5 : UInt8), (5 : UInt8), (5 : UInt8), (5 : UInt8), (5 : UInt8), (6 : UInt8), (6 : UInt8), (6 : UInt8), (6 : UInt8), (6 : UInt8), (6 : UInt8), (6 : UInt8), (6 : UInt8), (6 : UInt8), (6 : UInt8), (6 : UInt8), (6 : UInt8), (6 : UInt8), (6 : UInt8), (6 : UInt8), (6 : UInt8), (6 : UInt8), (6 : UInt8), (6 : UInt8), (6 : UInt8), (6 : UInt8), (6 : UInt8), (6 : UInt8), (6 : UInt8), (6 : UInt8), (6 : UInt8), (6 : UInt8), (6 : UInt8), (6 : UInt8), (6 : UInt8), (6 : UInt8), (6 : UInt8)].append [(7 : UInt8), (7 : UInt8), (7 : UInt8), (7 : UInt8), (7 : UInt8), (7 : UInt8), (7 : UInt8), (7 : UInt8), (7 : UInt8), (7 : UInt8), (7 : UInt8), (7 : UInt8), (7 : UInt8), (7 : UInt8), (7 : UInt8), (7 : UInt8), (7 : UInt8), (7 : UInt8), (7 : UInt8), (7 : UInt8), (7 : UInt8), (7 : UInt8), (7 : UInt8), (7 : UInt8), (7 : UInt8), (7 : UInt8), (7 : UInt8), (7 : UInt8), (7 : UInt8), (7 : UInt8), (7 : UInt8), (7 : UInt8), (7 : UInt8), (7 : UInt8), (7 : UInt8), (7 : UInt8), (7 : UInt8), (7 : UInt8), (7 : UInt8), (7 : UInt8), (7 : UInt8), (7 : UInt8), (7 : UInt8), (7 : UInt8), (7 : UInt8), (7 : UInt8), (7 : UInt8), (7 : UInt8), (7 : UInt8), (7 : UInt8), (7 : UInt8), (7 : UInt8), (7 : UInt8), (7 : UInt8), (7 : UInt8), (7 : UInt8), (7 : UInt8), (7 : UInt8), (7 : UInt8), (7 : UInt8), (7 : UInt8), (7 : UInt8), (7 : UInt8), (7 : UInt8)]).append ([(8 : UInt8), (8 : UInt8), (8 : UInt8), (8 : UInt8), (8 : UInt8), (8 : UInt8), (8 : UInt8), (8 : UInt8), (8 : UInt8), (8 : UInt8), (8 : UInt8), (8 : UInt8), (8 : UInt8), (8 : UInt8), (8 : UInt8), (8 : UInt8), (8 : UInt8), (8 : UInt8), (8 : UInt8), (8 : UInt8), (8 : UInt8), (8 : UInt8), (8 : UInt8), (8 : UInt8), (8 : UInt8), (8 : UInt8), (8 : UInt8), (8 : UInt8), (8 : UInt8), (8 : UInt8), (8 : UInt8), (8 : UInt8), (8 : UInt8), (8 : UInt8), (8 : UInt8), (8 : UInt8), (8 : UInt8), (8 : UInt8), (8 : UInt8), (8 : UInt8), (8 : UInt8), (8 : UInt8), (8 : UInt8), (8 : UInt8), (8 : UInt8), (8 : UInt8), (8 : UInt8), (8 : UInt8), (8 : UInt8), (8 : UInt8), (8 : UInt8), (8 : UInt8), (8 : UInt8), (8 : UInt8), (8 : UInt8), (8 : UInt8), (8 : UInt8), (8 : UInt8), (8 : UInt8), (8 : UInt8), (8 : UInt8), (8 : UInt8), (8 : UInt8), (8 : UInt8)].append [(8 : UInt8), (8 : UInt8), (8 : UInt8), (8 : UInt8), (8 : UInt8), (8 : UInt8), (8 : UInt8), (8 : UInt8), (8 : UInt8), (8 : UInt8), (8 : UInt8), (8 : UInt8), (8 : UInt8), (8 : UInt8), (8 : UInt8), (8 : UInt8), (8 : UInt8), (8 : UInt8), (8 : UInt8), (8 : UInt8), (8 : UInt8), (8 : UInt8), (8 : UInt8), (8 : UInt8), (8 : UInt8), (8 : UInt8), (8 : UInt8), (8 : UInt8), (8 : UInt8), (8 : UInt8), (8 : UInt8), (8 : UInt8), (8 : UInt8), (8 : UInt8), (8 : UInt8), (8 : UInt8), (8 : UInt8), (8 : UInt8), (8 : UInt8), (8 : UInt8), (8 : UInt8), (8 : UInt8), (8 : UInt8), (8 : UInt8), (8 : UInt8), (8 : UInt8), (8 : UInt8), (8 : UInt8), (8 : UInt8), (8 : UInt8), (8 : UInt8), (8 : UInt8), (8 : UInt8), (8 : UInt8), (8 : UInt8), (8 : UInt8), (8 : UInt8), (8 : UInt8), (8 : UInt8), (8 : UInt8), (8 : UInt8), (8 : UInt8), (8 : UInt8), (8 : UInt8)])).toArray)[(IntKind.u8.wrap (a0.fdiv ((2 : Int) ^ (8 : Nat)))).toNat]?.getD (0 : UInt8)).toNat : Int))) else none else none else bif decide ((0 : Int) ≤ IntKind.u8.wrap a0) then bif (IntKind.u8.wrap a0).toNat.blt (256 : Nat) then some (IntKind.i64.wrap ((0 : Int) + IntKind.i64.wrap (↑((ByteArray.mk (([(0 : UInt8), (1 : UInt8), (2 : UInt8), (2 : UInt8), (3 : UInt8), (3 : UInt8), (3 : UInt8), (3 : UInt8), (4 : UInt8), (4 : UInt8), (4 : UInt8), (4 : UInt8), (4 : UInt8), (4 : UInt8), (4 : UInt8), (4 : UInt8), (5 : UInt8), (5 : UInt8), (5 : UInt8), (5 : UInt8), (5 : UInt8), (5 : UInt8), (5 : UInt8), (5 : UInt8), (5 : UInt8), (5 : UInt8), (5 : UInt8), (5 : UInt8), (5 : UInt8), (5 : UInt8), (5 : UInt8), (5 : UInt8), (6 : UInt8), (6 : UInt8), (6 : UInt8), (6 : UInt8), (6 : UInt8), (6 : UInt8), (6 : UInt8), (6 : UInt8), (6 : UInt8), (6 : UInt8), (6 : UInt8), (6 : UInt8), (6 : UInt8), (6 : UInt8), (6 : UInt8), (6 : UInt8), (6 : UInt8), (6 : UInt8), (6 : UInt8), (6 : UInt8), (6 : UInt8), (6 : UInt8), (6 : UInt8), (6 : UInt8), (6 : UInt8), (6 : UInt8), (6 : UInt8), (6 : UInt8), (6 : UInt8), (6 : UInt8), (6 : UInt8), (6 : UInt8)].append [(7 : UInt8), (7 : UInt8), (7 : UInt8), (7 : UInt8), (7 : UInt8), (7 : UInt8), (7 : UInt8), (7 : UInt8), (7 : UInt8), (7 : UInt8), (7 : UInt8), (7 : UInt8), (7 : UInt8), (7 : UInt8), (7 : UInt8), (7 : UInt8), (7 : UInt8), (7 : UInt8), (7 : UInt8), (7 : UInt8), (7 : UInt8), (7 : UInt8), (7 : UInt8), (7 : UInt8), (7 : UInt8), (7 : UInt8), (7 : UInt8), (7 : UInt8), (7 : UInt8), (7 : UInt8), (7 : UInt8), (7 : UInt8), (7 : UInt8), (7 : UInt8), (7 : UInt8), (7 : UInt8), (7 : UInt8), (7 : UInt8), (7 : UInt8), (7 : UInt8), (7 : UInt8), (7 : UInt8), (7 : UInt8), (7 : UInt8), (7 : UInt8), (7 : UInt8), (7 : UInt8), (7 : UInt8), (7 : UInt8), (7 : UInt8), (7 : UInt8), (7 : UInt8), (7 : UInt8), (7 : UInt8), (7 : UInt8), (7 : UInt8), (7 : UInt8), (7 : UInt8), (7 : UInt8), (7 : UInt8), (7 : UInt8), (7 : UInt8), (7 : UInt8), (7 : UInt8)]).append ([(8 : UInt8), (8 : UInt8), (8 : UInt8), (8 : UInt8), (8 : UInt8), (8 : UInt8), (8 : UInt8), (8 : UInt8), (8 : UInt8), (8 : UInt8), (8 : UInt8), (8 : UInt8), (8 : UInt8), (8 : UInt8), (8 : UInt8), (8 : UInt8), (8 : UInt8), (8 : UInt8), (8 : UInt8), (8 : UInt8), (8 : UInt8), (8 : UInt8), (8 : UInt8), (8 : UInt8), (8 : UInt8), (8 : UInt8), (8 : UInt8), (8 : UInt8), (8 : UInt8), (8 : UInt8), (8 : UInt8), (8 : UInt8), (8 : UInt8), (8 : UInt8), (8 : UInt8), (8 : UInt8), (8 : UInt8), (8 : UInt8), (8 : UInt8), (8 : UInt8), (8 : UInt8), (8 : UInt8), (8 : UInt8), (8 : UInt8), (8 : UInt8), (8 : UInt8), (8 : UInt8), (8 : UInt8), (8 : UInt8), (8 : UInt8), (8 : UInt8), (8 : UInt8), (8 : UInt8), (8 : UInt8), (8 : UInt8), (8 : UInt8), (8 : UInt8), (8 : UInt8), (8 : UInt8), (8 : UInt8), (8 : UInt8), (8 : UInt8), (8 : UInt8), (8 : UInt8)].append [(8 : UInt8), (8 : UInt8), (8 : UInt8), (8 : UInt8), (8 : UInt8), (8 : UInt8), (8 : UInt8), (8 : UInt8), (8 : UInt8), (8 : UInt8), (8 : UInt8), (8 : UInt8), (8 : UInt8), (8 : UInt8), (8 : UInt8), (8 : UInt8), (8 : UInt8), (8 : UInt8), (8 : UInt8), (8 : UInt8), (8 : UInt8), (8 : UInt8), (8 : UInt8), (8 : UInt8), (8 : UInt8), (8 : UInt8), (8 : UInt8), (8 : UInt8), (8 : UInt8), (8 : UInt8), (8 : UInt8), (8 : UInt8), (8 : UInt8), (8 : UInt8), (8 : UInt8), (8 : UInt8), (8 : UInt8), (8 : UInt8), (8 : UInt8), (8 : UInt8), (8 : UInt8), (8 : UInt8), (8 : UInt8), (8 : UInt8), (8 : UInt8), (8 : UInt8), (8 : UInt8), (8 : UInt8), (8 : UInt8), (8 : UInt8), (8 : UInt8), (8 : UInt8), (8 : UInt8), (8 : UInt8), (8 : UInt8), (8 : UInt8), (8 : UInt8), (8 : UInt8), (8 : UInt8), (8 : UInt8), (8 : UInt8), (8 : UInt8), (8 : UInt8), (8 : UInt8)])).toArray)[(IntKind.u8.wrap a0).toNat]?.getD (0 : UInt8)).toNat : Int))) else none else none
noncomputable def F (K : Nat) : sig.In → Option (Int) := fun x => f K x.1
noncomputable def cv : sig.In → Int → sig.Ou := fun x r => (r, ())
noncomputable def LP {α : Type} (K : Nat) : LoopsBy α := noLoops
theorem eq (K : Nat) (a0 : Int) : runF M sig (C K) (eqBy M.P) (LP K) RF (CP K) 20 Tryz.f178 (bodyOf Tryz.f178) (a0, ()) = (f K a0).bind fun r => some (cv (a0, ()) r) := by
  unfold f
  try simp only [el]
  kernel_rfl
theorem rets (K : Nat) : ∀ x y, withCv (F K) cv x = some y → Rets M 178 sig x y := fun x y h => runF_rets (L := 20) (C_ok K) (eqBy_ok _) (by kernel_rfl) RF_ok (CP_ok K) (show LoopsOk M 0 (LP K) (loopsOf (bodyOf Tryz.f178)) from (show loopsOf (bodyOf Tryz.f178) = [] by kernel_rfl) ▸ noLoops_ok) (Nat.le_of_ble_eq_true rfl) Tryz.func178 (by kernel_rfl) ((eq K x.1).trans h)
end math_bits_Len64
namespace math_bits_Len
/-! ### math_bits_Len: function 151 -/
noncomputable def sig : Sig := ⟨(.ty (.int .u64)), [], (.ty yI), []⟩
noncomputable def RF : RefitBy := noRefit
theorem RF_ok : RefitOk M 0 RF := noRefit_ok
noncomputable def C {α : Type} (K : Nat) : CallsBy α := (entryD 178 math_bits_Len64.sig (math_bits_Len64.F K) math_bits_Len64.cv noCalls)
theorem C_ok {α : Type} (K : Nat) : CallsOk (α := α) M (C K) := (entryD_ok noCalls_ok (by rfl) Tryz.func178 (by kernel_rfl) rfl (math_bits_Len64.rets K))
noncomputable def CP {α : Type} (K : Nat) : CutBy α := noCuts
theorem CP_ok {α : Type} (K : Nat)  : CutsOk (α := α) M 0 (CP K) := noCuts_ok
noncomputable def f (K : Nat) (a0 : Int) : Option (Int) := math_bits_Len64.f K a0
noncomputable def F (K : Nat) : sig.In → Option (Int) := fun x => f K x.1
noncomputable def cv : sig.In → Int → sig.Ou := fun x r => (r, ())
noncomputable def LP {α : Type} (K : Nat) : LoopsBy α := noLoops
theorem eq (K : Nat) (a0 : Int) : runF M sig (C K) (eqBy M.P) (LP K) RF (CP K) 20 Tryz.f151 (bodyOf Tryz.f151) (a0, ()) = (f K a0).bind fun r => some (cv (a0, ()) r) := by
  unfold f
  try simp only [el]
  kernel_rfl
theorem rets (K : Nat) : ∀ x y, withCv (F K) cv x = some y → Rets M 151 sig x y := fun x y h => runF_rets (L := 20) (C_ok K) (eqBy_ok _) (by kernel_rfl) RF_ok (CP_ok K) (show LoopsOk M 0 (LP K) (loopsOf (bodyOf Tryz.f151)) from (show loopsOf (bodyOf Tryz.f151) = [] by kernel_rfl) ▸ noLoops_ok) (Nat.le_of_ble_eq_true rfl) Tryz.func151 (by kernel_rfl) ((eq K x.1).trans h)
end math_bits_Len
namespace cmp_isNaN_int
/-! ### cmp_isNaN_int: function 179 -/
noncomputable def sig : Sig := ⟨(.ty yI), [], (.ty .bool), []⟩
noncomputable def RF : RefitBy := noRefit
theorem RF_ok : RefitOk M 0 RF := noRefit_ok
noncomputable def C {α : Type} (K : Nat) : CallsBy α := noCalls
theorem C_ok {α : Type} (K : Nat) : CallsOk (α := α) M (C K) := noCalls_ok
noncomputable def CP {α : Type} (K : Nat) : CutBy α := noCuts
theorem CP_ok {α : Type} (K : Nat)  : CutsOk (α := α) M 0 (CP K) := noCuts_ok
noncomputable def f (K : Nat) (a0 : Int) : Option (Bool) := some (a0 != a0)
noncomputable def F (K : Nat) : sig.In → Option (Bool) := fun x => f K x.1
noncomputable def cv : sig.In → Bool → sig.Ou := fun x r => (r, ())
noncomputable def LP {α : Type} (K : Nat) : LoopsBy α := noLoops
theorem eq (K : Nat) (a0 : Int) : runF M sig (C K) (eqBy M.P) (LP K) RF (CP K) 20 Tryz.f179 (bodyOf Tryz.f179) (a0, ()) = (f K a0).bind fun r => some (cv (a0, ()) r) := by
  unfold f
  try simp only [el]
  kernel_rfl
theorem rets (K : Nat) : ∀ x y, withCv (F K) cv x = some y → Rets M 179 sig x y := fun x y h => runF_rets (L := 20) (C_ok K) (eqBy_ok _) (by kernel_rfl) RF_ok (CP_ok K) (show LoopsOk M 0 (LP K) (loopsOf (bodyOf Tryz.f179)) from (show loopsOf (bodyOf Tryz.f179) = [] by kernel_rfl) ▸ noLoops_ok) (Nat.le_of_ble_eq_true rfl) Tryz.func179 (by kernel_rfl) ((eq K x.1).trans h)
end cmp_isNaN_int
namespace cmp_Less_int
/-! ### cmp_Less_int: function 152 -/
noncomputable def sig : Sig := ⟨(.cons (.ty yI) (.ty yI)), [], (.ty .bool), []⟩
noncomputable def RF : RefitBy := noRefit
theorem RF_ok : RefitOk M 0 RF := noRefit_ok
noncomputable def C {α : Type} (K : Nat) : CallsBy α := (entryD 179 cmp_isNaN_int.sig (cmp_isNaN_int.F K) cmp_isNaN_int.cv noCalls)
theorem C_ok {α : Type} (K : Nat) : CallsOk (α := α) M (C K) := (entryD_ok noCalls_ok (by rfl) Tryz.func179 (by kernel_rfl) rfl (cmp_isNaN_int.rets K))
noncomputable def CP {α : Type} (K : Nat) : CutBy α := (cpPut 1 (rpCut M bindC [.bool] [4] (C K) (eqBy M.P)) noCuts)
theorem CP_ok {α : Type} (K : Nat)  : CutsOk (α := α) M 0 (CP K) := (cpPut_ok (rpCut_ok (C_ok K) (eqBy_ok _) (by kernel_rfl)) noCuts_ok)
noncomputable def f (K : Nat) (a0 : Int) (a1 : Int) : Option (Bool) := bindC ((cmp_isNaN_int.f K a0).bind fun t => bif t then (cmp_isNaN_int.f K a1).bind fun t => bif !t then some true else some (decide (a0 < a1)) else some (decide (a0 < a1))) fun t => some t
noncomputable def F (K : Nat) : sig.In → Option (Bool) := fun x => f K x.1.1 x.1.2
noncomputable def cv : sig.In → Bool → sig.Ou := fun x r => (r, ())
noncomputable def LP {α : Type} (K : Nat) : LoopsBy α := noLoops
theorem eq (K : Nat) (a0 : Int) (a1 : Int) : runF M sig (C K) (eqBy M.P) (LP K) RF (CP K) 20 Tryz.f152 (bodyOf Tryz.f152) ((a0, a1), ()) = (f K a0 a1).bind fun r => some (cv ((a0, a1), ()) r) := by
  unfold f
  try simp only [el]
  kernel_rfl
theorem rets (K : Nat) : ∀ x y, withCv (F K) cv x = some y → Rets M 152 sig x y := fun x y h => runF_rets (L := 20) (C_ok K) (eqBy_ok _) (by kernel_rfl) RF_ok (CP_ok K) (show LoopsOk M 0 (LP K) (loopsOf (bodyOf Tryz.f152)) from (show loopsOf (bodyOf Tryz.f152) = [] by kernel_rfl) ▸ noLoops_ok) (Nat.le_of_ble_eq_true rfl) Tryz.func152 (by kernel_rfl) ((eq K x.1.1 x.1.2).trans h)
end cmp_Less_int
namespace slices_insertionSortOrdered_int
/-! ### slices_insertionSortOrdered_int: function 169 -/
noncomputable def sig : Sig := ⟨(.cons (.own 0) (.cons (.ty yI) (.ty yI))), [.list 3 yI []], .unit, [.list 3 yI []]⟩
noncomputable def RF : RefitBy := noRefit
theorem RF_ok : RefitOk M 1 RF := noRefit_ok
noncomputable def C {α : Type} (K : Nat) : CallsBy α := (entryD 152 cmp_Less_int.sig (cmp_Less_int.F K) cmp_Less_int.cv noCalls)
theorem C_ok {α : Type} (K : Nat) : CallsOk (α := α) M (C K) := (entryD_ok noCalls_ok (by rfl) Tryz.func152 (by kernel_rfl) rfl (cmp_Less_int.rets K))
noncomputable def CP {α : Type} (K : Nat) : CutBy α := (cpPut 4 (rpCut M bindC [.bool] [30] (C K) (eqBy M.P)) noCuts)
theorem CP_ok {α : Type} (K : Nat)  : CutsOk (α := α) M 1 (CP K) := (cpPut_ok (rpCut_ok (C_ok K) (eqBy_ok _) (by kernel_rfl)) noCuts_ok)
noncomputable def l1.h : SSh := ⟨[0, 1, 2, 6, 7], (.cons (.own 0) (.cons (.ty yI) (.cons (.ty yI) (.cons (.ty yI) (.ty yI))))), [.list 3 yI []]⟩
noncomputable def l1.x : SSh := ⟨[0, 1, 2, 6], (.cons (.own 0) (.cons (.ty yI) (.cons (.ty yI) (.ty yI)))), [.list 3 yI []]⟩
noncomputable def l1.cx : l1.h.I → (List Int) → l1.x.I := fun x r => (((), (x.1.2.1, (x.1.2.2.1, x.1.2.2.2.1))), (r, ()))
noncomputable def l1.f (K : Nat) : Nat → Int → Int → List Int → Option (List Int)
  | 0, _, _, _ => none
  | k + 1, a0, a3, a4 => bindC (bif decide (a3 > a0) then bif decide ((0 : Int) ≤ a3) then bif a3.toNat.blt a4.length then a4[a3.toNat]?.bind fun t => bif decide ((0 : Int) ≤ IntKind.i64.wrap (a3 - (1 : Int))) then bif (IntKind.i64.wrap (a3 - (1 : Int))).toNat.blt a4.length then a4[(IntKind.i64.wrap (a3 - (1 : Int))).toNat]?.bind fun t_1 => (cmp_Less_int.f K t t_1).bind fun t => some t else none else none else none else none else some false) fun t => bif t then bif decide ((0 : Int) ≤ IntKind.i64.wrap (a3 - (1 : Int))) then bif (IntKind.i64.wrap (a3 - (1 : Int))).toNat.blt a4.length then a4[(IntKind.i64.wrap (a3 - (1 : Int))).toNat]?.bind fun t => bif decide ((0 : Int) ≤ a3) then bif a3.toNat.blt a4.length then a4[a3.toNat]?.bind fun t_1 => bif decide ((0 : Int) ≤ a3) then bif a3.toNat.blt a4.length then a4[a3.toNat]?.bind fun t_2 => bif decide ((0 : Int) ≤ IntKind.i64.wrap (a3 - (1 : Int))) then bif (IntKind.i64.wrap (a3 - (1 : Int))).toNat.blt (a4.set a3.toNat t).length then (a4.set a3.toNat t)[(IntKind.i64.wrap (a3 - (1 : Int))).toNat]?.bind fun t_3 => l1.f K k a0 (IntKind.i64.wrap (a3 - (1 : Int))) ((a4.set a3.toNat t).set (IntKind.i64.wrap (a3 - (1 : Int))).toNat t_1) else none else none else none else none else none else none else none else none else some a4
noncomputable def l1.F (K : Nat) (k : Nat) : l1.h.I → Option (List Int) := fun x => l1.f K k x.1.2.1 x.1.2.2.2.2 x.2.1
noncomputable def l1.lp {α : Type} (K : Nat) : St → Kn α → Option α := lpX 1 49 2 l1.h l1.x (l1.F K K) l1.cx
noncomputable def l1.c : Code := nthLoop Tryz.f169 1
noncomputable def l1.LP {α : Type} (K : Nat) : LoopsBy α := noLoops
theorem l1.eq (K : Nat) (k : Nat) (a0 : Int) (a1 : Int) (a2 : Int) (a3 : Int) (a4 : List Int) : exec M (C K) (eqBy M.P) (l1.LP K) RF (CP K) 20 l1.c (Kl 1 l1.h (withCv (l1.F K k) l1.cx) (backX 1 49 2 l1.x)) (l1.h.enc 49 (((), (a0, (a1, (a2, a3)))), (a4, ()))) = (l1.f K (k + 1) a0 a3 a4).bind fun r => some (l1.cx (((), (a0, (a1, (a2, a3)))), (a4, ())) r) := by
  rw [l1.f]
  try simp only [el]
  kernel_rfl
theorem l1.leads (K : Nat) : ∀ k x y, withCv (l1.F K k) l1.cx x = some y → Leads M 1 (.loop l1.c) (l1.h.enc 49 x) (outX 49 2 l1.x y).1 (outX 49 2 l1.x y).2 :=
  loopX_sound (C_ok K) (eqBy_ok _) (by kernel_rfl) RF_ok (CP_ok K) (show LoopsOk M 1 (l1.LP K) (loopsOf l1.c) from (show loopsOf l1.c = [] by kernel_rfl) ▸ (noLoops_ok)) (Nat.le_of_ble_eq_true rfl) (Nat.le_of_ble_eq_true rfl) (fun x => rfl) (fun k x => l1.eq K k x.1.2.1 x.1.2.2.1 x.1.2.2.2.1 x.1.2.2.2.2 x.2.1)
theorem l1.lp_ok {α : Type} (K : Nat) : LoopOk (α := α) M 1 (nthLoop Tryz.f169 1) (l1.lp K) := lpX_ok (Nat.le_of_ble_eq_true rfl) (l1.leads K K)
noncomputable def l0.h : SSh := ⟨[0, 1, 2, 6], (.cons (.own 0) (.cons (.ty yI) (.cons (.ty yI) (.ty yI)))), [.list 3 yI []]⟩
noncomputable def l0.x : SSh := ⟨[], .unit, [.list 3 yI []]⟩
noncomputable def l0.cx : l0.h.I → (List Int) → l0.x.I := fun x r => ((), (r, ()))
noncomputable def l0.f (K : Nat) : Nat → Int → Int → Int → List Int → Option (List Int)
  | 0, _, _, _, _ => none
  | k + 1, a0, a1, a2, a3 => bif decide (a2 < a1) then (l1.f K K a0 a2 a3).bind fun t => l0.f K k a0 a1 (IntKind.i64.wrap (a2 + (1 : Int))) t else some a3
noncomputable def l0.F (K : Nat) (k : Nat) : l0.h.I → Option (List Int) := fun x => l0.f K k x.1.2.1 x.1.2.2.1 x.1.2.2.2 x.2.1
noncomputable def l0.lp {α : Type} (K : Nat) : St → Kn α → Option α := lpX 1 49 0 l0.h l0.x (l0.F K K) l0.cx
noncomputable def l0.c : Code := nthLoop Tryz.f169 0
noncomputable def l0.LP {α : Type} (K : Nat) : LoopsBy α := (lpPut 4 (l1.lp K) noLoops)
theorem l0.eq (K : Nat) (k : Nat) (a0 : Int) (a1 : Int) (a2 : Int) (a3 : List Int) : exec M (C K) (eqBy M.P) (l0.LP K) RF (CP K) 20 l0.c (Kl 1 l0.h (withCv (l0.F K k) l0.cx) (backX 1 49 0 l0.x)) (l0.h.enc 49 (((), (a0, (a1, a2))), (a3, ()))) = (l0.f K (k + 1) a0 a1 a2 a3).bind fun r => some (l0.cx (((), (a0, (a1, a2))), (a3, ())) r) := by
  rw [l0.f]
  try simp only [el]
  kernel_rfl
theorem l0.leads (K : Nat) : ∀ k x y, withCv (l0.F K k) l0.cx x = some y → Leads M 1 (.loop l0.c) (l0.h.enc 49 x) (outX 49 0 l0.x y).1 (outX 49 0 l0.x y).2 :=
  loopX_sound (C_ok K) (eqBy_ok _) (by kernel_rfl) RF_ok (CP_ok K) (show LoopsOk M 1 (l0.LP K) (loopsOf l0.c) from (show loopsOf l0.c = [nthLoop Tryz.f169 1] by kernel_rfl) ▸ ((loopsOk_put (key := 4) (by kernel_rfl) (l1.lp_ok K) noLoops_ok (by kernel_rfl)))) (Nat.le_of_ble_eq_true rfl) (Nat.le_of_ble_eq_true rfl) (fun x => rfl) (fun k x => l0.eq K k x.1.2.1 x.1.2.2.1 x.1.2.2.2 x.2.1)
theorem l0.lp_ok {α : Type} (K : Nat) : LoopOk (α := α) M 1 (nthLoop Tryz.f169 0) (l0.lp K) := lpX_ok (Nat.le_of_ble_eq_true rfl) (l0.leads K K)
noncomputable def f (K : Nat) (a0 : Int) (a1 : Int) (a2 : List Int) : Option (List Int) := l0.f K K a0 a1 (IntKind.i64.wrap (a0 + (1 : Int))) a2
noncomputable def F (K : Nat) : sig.In → Option (List Int) := fun x => f K x.1.2.1 x.1.2.2 x.2.1
noncomputable def cv : sig.In → (List Int) → sig.Ou := fun x r => ((), (r, ()))
noncomputable def LP {α : Type} (K : Nat) : LoopsBy α := (lpPut 1 (l0.lp K) (lpPut 4 (l1.lp K) noLoops))
theorem eq (K : Nat) (a0 : Int) (a1 : Int) (a2 : List Int) : runF M sig (C K) (eqBy M.P) (LP K) RF (CP K) 20 Tryz.f169 (bodyOf Tryz.f169) (((), (a0, a1)), (a2, ())) = (f K a0 a1 a2).bind fun r => some (cv (((), (a0, a1)), (a2, ())) r) := by
  unfold f
  try simp only [el]
  kernel_rfl
theorem rets (K : Nat) : ∀ x y, withCv (F K) cv x = some y → Rets M 169 sig x y := fun x y h => runF_rets (L := 20) (C_ok K) (eqBy_ok _) (by kernel_rfl) RF_ok (CP_ok K) (show LoopsOk M 1 (LP K) (loopsOf (bodyOf Tryz.f169)) from (show loopsOf (bodyOf Tryz.f169) = [nthLoop Tryz.f169 0, nthLoop Tryz.f169 1] by kernel_rfl) ▸ (loopsOk_put (key := 1) (by kernel_rfl) (l0.lp_ok K) (loopsOk_put (key := 4) (by kernel_rfl) (l1.lp_ok K) noLoops_ok (by kernel_rfl)) (by kernel_rfl))) (Nat.le_of_ble_eq_true rfl) Tryz.func169 (by kernel_rfl) ((eq K x.1.2.1 x.1.2.2 x.2.1).trans h)
end slices_insertionSortOrdered_int
namespace slices_nextPowerOfTwo
/-! ### slices_nextPowerOfTwo: function 196 -/
noncomputable def sig : Sig := ⟨(.ty yI), [], (.ty (.int .u64)), []⟩
noncomputable def RF : RefitBy := noRefit
theorem RF_ok : RefitOk M 0 RF := noRefit_ok
noncomputable def C {α : Type} (K : Nat) : CallsBy α := (entryD 151 math_bits_Len.sig (math_bits_Len.F K) math_bits_Len.cv noCalls)
theorem C_ok {α : Type} (K : Nat) : CallsOk (α := α) M (C K) := (entryD_ok noCalls_ok (by rfl) Tryz.func151 (by kernel_rfl) rfl (math_bits_Len.rets K))
noncomputable def CP {α : Type} (K : Nat) : CutBy α := noCuts
theorem CP_ok {α : Type} (K : Nat)  : CutsOk (α := α) M 0 (CP K) := noCuts_ok
noncomputable def f (K : Nat) (a0 : Int) : Option (Int) := (math_bits_Len.f K (IntKind.u64.wrap a0)).bind fun t => bif decide (t < (0 : Int)) then none else some (IntKind.u64.wrap ((1 : Int) * (2 : Int) ^ min t.toNat (64 : Nat)))
noncomputable def F (K : Nat) : sig.In → Option (Int) := fun x => f K x.1
noncomputable def cv : sig.In → Int → sig.Ou := fun x r => (r, ())
noncomputable def LP {α : Type} (K : Nat) : LoopsBy α := noLoops
theorem eq (K : Nat) (a0 : Int) : runF M sig (C K) (eqBy M.P) (LP K) RF (CP K) 20 Tryz.f196 (bodyOf Tryz.f196) (a0, ()) = (f K a0).bind fun r => some (cv (a0, ()) r) := by
  unfold f
  try simp only [el]
  kernel_rfl
theorem rets (K : Nat) : ∀ x y, withCv (F K) cv x = some y → Rets M 196 sig x y := fun x y h => runF_rets (L := 20) (C_ok K) (eqBy_ok _) (by kernel_rfl) RF_ok (CP_ok K) (show LoopsOk M 0 (LP K) (loopsOf (bodyOf Tryz.f196)) from (show loopsOf (bodyOf Tryz.f196) = [] by kernel_rfl) ▸ noLoops_ok) (Nat.le_of_ble_eq_true rfl) Tryz.func196 (by kernel_rfl) ((eq K x.1).trans h)
end slices_nextPowerOfTwo
namespace slices_reverseRangeOrdered_int
/-! ### slices_reverseRangeOrdered_int: function 173 -/
noncomputable def sig : Sig := ⟨(.cons (.own 0) (.cons (.ty yI) (.ty yI))), [.list 3 yI []], .unit, [.list 3 yI []]⟩
noncomputable def RF : RefitBy := noRefit
theorem RF_ok : RefitOk M 1 RF := noRefit_ok
noncomputable def C {α : Type} (K : Nat) : CallsBy α := noCalls
theorem C_ok {α : Type} (K : Nat) : CallsOk (α := α) M (C K) := noCalls_ok
noncomputable def CP {α : Type} (K : Nat) : CutBy α := noCuts
theorem CP_ok {α : Type} (K : Nat)  : CutsOk (α := α) M 1 (CP K) := noCuts_ok
noncomputable def l0.h : SSh := ⟨[0, 6, 7], (.cons (.own 0) (.cons (.ty yI) (.ty yI))), [.list 3 yI []]⟩
noncomputable def l0.x : SSh := ⟨[], .unit, [.list 3 yI []]⟩
noncomputable def l0.cx : l0.h.I → (List Int) → l0.x.I := fun x r => ((), (r, ()))
noncomputable def l0.f (K : Nat) : Nat → Int → Int → List Int → Option (List Int)
  | 0, _, _, _ => none
  | k + 1, a0, a1, a2 => bif decide (a0 < a1) then bif decide ((0 : Int) ≤ a1) then bif a1.toNat.blt a2.length then a2[a1.toNat]?.bind fun t => bif decide ((0 : Int) ≤ a0) then bif a0.toNat.blt a2.length then a2[a0.toNat]?.bind fun t_1 => bif decide ((0 : Int) ≤ a0) then bif a0.toNat.blt a2.length then a2[a0.toNat]?.bind fun t_2 => bif decide ((0 : Int) ≤ a1) then bif a1.toNat.blt (a2.set a0.toNat t).length then (a2.set a0.toNat t)[a1.toNat]?.bind fun t_3 => l0.f K k (IntKind.i64.wrap (a0 + (1 : Int))) (IntKind.i64.wrap (a1 - (1 : Int))) ((a2.set a0.toNat t).set a1.toNat t_1) else none else none else none else none else none else none else none else none else some a2
noncomputable def l0.F (K : Nat) (k : Nat) : l0.h.I → Option (List Int) := fun x => l0.f K k x.1.2.1 x.1.2.2 x.2.1
noncomputable def l0.lp {α : Type} (K : Nat) : St → Kn α → Option α := lpX 1 32 0 l0.h l0.x (l0.F K K) l0.cx
noncomputable def l0.c : Code := nthLoop Tryz.f173 0
noncomputable def l0.LP {α : Type} (K : Nat) : LoopsBy α := noLoops
theorem l0.eq (K : Nat) (k : Nat) (a0 : Int) (a1 : Int) (a2 : List Int) : exec M (C K) (eqBy M.P) (l0.LP K) RF (CP K) 20 l0.c (Kl 1 l0.h (withCv (l0.F K k) l0.cx) (backX 1 32 0 l0.x)) (l0.h.enc 32 (((), (a0, a1)), (a2, ()))) = (l0.f K (k + 1) a0 a1 a2).bind fun r => some (l0.cx (((), (a0, a1)), (a2, ())) r) := by
  rw [l0.f]
  try simp only [el]
  kernel_rfl
theorem l0.leads (K : Nat) : ∀ k x y, withCv (l0.F K k) l0.cx x = some y → Leads M 1 (.loop l0.c) (l0.h.enc 32 x) (outX 32 0 l0.x y).1 (outX 32 0 l0.x y).2 :=
  loopX_sound (C_ok K) (eqBy_ok _) (by kernel_rfl) RF_ok (CP_ok K) (show LoopsOk M 1 (l0.LP K) (loopsOf l0.c) from (show loopsOf l0.c = [] by kernel_rfl) ▸ (noLoops_ok)) (Nat.le_of_ble_eq_true rfl) (Nat.le_of_ble_eq_true rfl) (fun x => rfl) (fun k x => l0.eq K k x.1.2.1 x.1.2.2 x.2.1)
theorem l0.lp_ok {α : Type} (K : Nat) : LoopOk (α := α) M 1 (nthLoop Tryz.f173 0) (l0.lp K) := lpX_ok (Nat.le_of_ble_eq_true rfl) (l0.leads K K)
noncomputable def f (K : Nat) (a0 : Int) (a1 : Int) (a2 : List Int) : Option (List Int) := l0.f K K a0 (IntKind.i64.wrap (a1 - (1 : Int))) a2
noncomputable def F (K : Nat) : sig.In → Option (List Int) := fun x => f K x.1.2.1 x.1.2.2 x.2.1
noncomputable def cv : sig.In → (List Int) → sig.Ou := fun x r => ((), (r, ()))
noncomputable def LP {α : Type} (K : Nat) : LoopsBy α := (lpPut 2 (l0.lp K) noLoops)
theorem eq (K : Nat) (a0 : Int) (a1 : Int) (a2 : List Int) : runF M sig (C K) (eqBy M.P) (LP K) RF (CP K) 20 Tryz.f173 (bodyOf Tryz.f173) (((), (a0, a1)), (a2, ())) = (f K a0 a1 a2).bind fun r => some (cv (((), (a0, a1)), (a2, ())) r) := by
  unfold f
  try simp only [el]
  kernel_rfl
theorem rets (K : Nat) : ∀ x y, withCv (F K) cv x = some y → Rets M 173 sig x y := fun x y h => runF_rets (L := 20) (C_ok K) (eqBy_ok _) (by kernel_rfl) RF_ok (CP_ok K) (show LoopsOk M 1 (LP K) (loopsOf (bodyOf Tryz.f173)) from (show loopsOf (bodyOf Tryz.f173) = [nthLoop Tryz.f173 0] by kernel_rfl) ▸ (loopsOk_put (key := 2) (by kernel_rfl) (l0.lp_ok K) noLoops_ok (by kernel_rfl))) (Nat.le_of_ble_eq_true rfl) Tryz.func173 (by kernel_rfl) ((eq K x.1.2.1 x.1.2.2 x.2.1).trans h)
end slices_reverseRangeOrdered_int
namespace slices_pdqsortOrdered_int
/-! ### slices_pdqsortOrdered_int: function 150 -/
noncomputable def sig : Sig := ⟨(.cons (.own 0) (.cons (.ty yI) (.cons (.ty yI) (.ty yI)))), [.list 3 yI []], .unit, [.list 3 yI []]⟩
noncomputable def RF : RefitBy := noRefit
theorem RF_ok : RefitOk M 1 RF := noRefit_ok
noncomputable def cv : sig.In → (List Int) → sig.Ou := fun x r => ((), (r, ()))
noncomputable def Fs (self : Int → Int → Int → List Int → Option (List Int)) : sig.In → Option (List Int) := fun x => self x.1.2.1 x.1.2.2.1 x.1.2.2.2 x.2.1
noncomputable def C {α : Type} (K : Nat) (self : Int → Int → Int → List Int → Option (List Int)) : CallsBy α := (entryD 169 slices_insertionSortOrdered_int.sig (slices_insertionSortOrdered_int.F K) slices_insertionSortOrdered_int.cv noCalls)
theorem C_ok {α : Type} (K : Nat) (self : Int → Int → Int → List Int → Option (List Int)) (ih : ∀ x y, withCv (Fs self) cv x = some y → Rets M 150 sig x y) : CallsOk (α := α) M (C K self) := (entryD_ok noCalls_ok (by rfl) Tryz.func169 (by kernel_rfl) rfl (slices_insertionSortOrdered_int.rets K))
noncomputable def CP {α : Type} (K : Nat) (self : Int → Int → Int → List Int → Option (List Int)) : CutBy α := noCuts
theorem CP_ok {α : Type} (K : Nat) (self : Int → Int → Int → List Int → Option (List Int)) (ih : ∀ x y, withCv (Fs self) cv x = some y → Rets M 150 sig x y) : CutsOk (α := α) M 1 (CP K self) := noCuts_ok
noncomputable def l0.h : SSh := ⟨[0, 1, 2, 3, 8, 9], (.cons (.own 0) (.cons (.ty yI) (.cons (.ty yI) (.cons (.ty yI) (.cons (.ty .bool) (.ty .bool)))))), [.list 3 yI []]⟩
noncomputable def l0.r : SSh := ⟨[], .unit, [.list 3 yI []]⟩
noncomputable def l0.cr : l0.h.I → (List Int) → l0.r.I := fun x r => ((), (r, ()))
noncomputable def l0.f (K : Nat) (self : Int → Int → Int → List Int → Option (List Int)) : Nat → Int → Int → Int → Bool → List Int → Option (List Int)
  | 0, _, _, _, _, _ => none
  | k + 1, a0, a1, a2, a3, a5 => bif decide (IntKind.i64.wrap (a1 - a0) ≤ (12 : Int)) then slices_insertionSortOrdered_int.f K a0 a1 a5 else bif a2 == (0 : Int) then none else bif !a3 then none else none
noncomputable def l0.F (K : Nat) (self : Int → Int → Int → List Int → Option (List Int)) (k : Nat) : l0.h.I → Option (List Int) := fun x => l0.f K self k x.1.2.1 x.1.2.2.1 x.1.2.2.2.1 x.1.2.2.2.2.1 x.2.1
noncomputable def l0.lp {α : Type} (K : Nat) (self : Int → Int → Int → List Int → Option (List Int)) : St → Kn α → Option α := lpR 1 134 l0.h l0.r (l0.F K self K) l0.cr
noncomputable def l0.c : Code := nthLoop Tryz.f150 0
noncomputable def l0.LP {α : Type} (K : Nat) (self : Int → Int → Int → List Int → Option (List Int)) : LoopsBy α := noLoops
theorem l0.eq (K : Nat) (self : Int → Int → Int → List Int → Option (List Int)) (k : Nat) (a0 : Int) (a1 : Int) (a2 : Int) (a3 : Bool) (a4 : Bool) (a5 : List Int) : exec M (C K self) (eqBy M.P) (l0.LP K self) RF (CP K self) 20 l0.c (Kl 1 l0.h (withCv (l0.F K self k) l0.cr) (backR 1 l0.r)) (l0.h.enc 134 (((), (a0, (a1, (a2, (a3, a4))))), (a5, ()))) = (l0.f K self (k + 1) a0 a1 a2 a3 a5).bind fun r => some (l0.cr (((), (a0, (a1, (a2, (a3, a4))))), (a5, ())) r) := by
  rw [l0.f]
  try simp only [el]
  kernel_rfl
theorem l0.leads (K : Nat) (self : Int → Int → Int → List Int → Option (List Int)) (ih : ∀ x y, withCv (Fs self) cv x = some y → Rets M 150 sig x y) : ∀ k x y, withCv (l0.F K self k) l0.cr x = some y → Leads M 1 (.loop l0.c) (l0.h.enc 134 x) (outR 134 l0.r y).1 (outR 134 l0.r y).2 :=
  loopR_sound (C_ok K self ih) (eqBy_ok _) (by kernel_rfl) RF_ok (CP_ok K self ih) (show LoopsOk M 1 (l0.LP K self) (loopsOf l0.c) from (show loopsOf l0.c = [] by kernel_rfl) ▸ (noLoops_ok)) (Nat.le_of_ble_eq_true rfl) (Nat.le_of_ble_eq_true rfl) (fun x => rfl) (fun k x => l0.eq K self k x.1.2.1 x.1.2.2.1 x.1.2.2.2.1 x.1.2.2.2.2.1 x.1.2.2.2.2.2 x.2.1)
theorem l0.lp_ok {α : Type} (K : Nat) (self : Int → Int → Int → List Int → Option (List Int)) (ih : ∀ x y, withCv (Fs self) cv x = some y → Rets M 150 sig x y) : LoopOk (α := α) M 1 (nthLoop Tryz.f150 0) (l0.lp K self) := lpR_ok (Nat.le_of_ble_eq_true rfl) (l0.leads K self ih K)
noncomputable def body (K : Nat) (self : Int → Int → Int → List Int → Option (List Int)) (a0 : Int) (a1 : Int) (a2 : Int) (a3 : List Int) : Option (List Int) := l0.f K self K a0 a1 a2 true a3
noncomputable def LP {α : Type} (K : Nat) (self : Int → Int → Int → List Int → Option (List Int)) : LoopsBy α := (lpPut 2 (l0.lp K self) noLoops)
noncomputable def f (K : Nat) : Nat → Int → Int → Int → List Int → Option (List Int)
  | 0, _, _, _, _ => none
  | q + 1, a0, a1, a2, a3 => body K (f K q) a0 a1 a2 a3
noncomputable def F (K : Nat) : sig.In → Option (List Int) := fun x => f K K x.1.2.1 x.1.2.2.1 x.1.2.2.2 x.2.1
theorem eq (K : Nat) (self : Int → Int → Int → List Int → Option (List Int)) (a0 : Int) (a1 : Int) (a2 : Int) (a3 : List Int) : runF M sig (C K self) (eqBy M.P) (LP K self) RF (CP K self) 20 Tryz.f150 (bodyOf Tryz.f150) (((), (a0, (a1, a2))), (a3, ())) = (body K self a0 a1 a2 a3).bind fun r => some (cv (((), (a0, (a1, a2))), (a3, ())) r) := by
  unfold body
  try simp only [el]
  kernel_rfl
theorem step (K : Nat) (self : Int → Int → Int → List Int → Option (List Int)) (ih : ∀ x y, withCv (Fs self) cv x = some y → Rets M 150 sig x y) : ∀ x y, withCv (Fs (fun a0 a1 a2 a3 => body K self a0 a1 a2 a3)) cv x = some y → Rets M 150 sig x y := fun x y h => runF_rets (L := 20) (C_ok K self ih) (eqBy_ok _) (by kernel_rfl) RF_ok (CP_ok K self ih) (show LoopsOk M 1 (LP K self) (loopsOf (bodyOf Tryz.f150)) from (show loopsOf (bodyOf Tryz.f150) = [nthLoop Tryz.f150 0] by kernel_rfl) ▸ (loopsOk_put (key := 2) (by kernel_rfl) (l0.lp_ok K self ih) noLoops_ok (by kernel_rfl))) (Nat.le_of_ble_eq_true rfl) Tryz.func150 (by kernel_rfl) ((eq K self x.1.2.1 x.1.2.2.1 x.1.2.2.2 x.2.1).trans h)
theorem retsq (K : Nat) : ∀ q x y, withCv (Fs (f K q)) cv x = some y → Rets M 150 sig x y
  | 0, x, y, h => by cases h
  | q + 1, x, y, h => step K (f K q) (retsq K q) x y h
theorem rets (K : Nat) : ∀ x y, withCv (F K) cv x = some y → Rets M 150 sig x y := retsq K K
end slices_pdqsortOrdered_int
namespace slices_Sort_int_int
/-! ### slices_Sort_int_int: function 104 -/
noncomputable def sig : Sig := ⟨(.own 0), [.list 3 yI []], .unit, [.list 3 yI []]⟩
noncomputable def RF : RefitBy := noRefit
theorem RF_ok : RefitOk M 1 RF := noRefit_ok
noncomputable def C {α : Type} (K : Nat) : CallsBy α := (entryD 151 math_bits_Len.sig (math_bits_Len.F K) math_bits_Len.cv (entryD 150 slices_pdqsortOrdered_int.sig (slices_pdqsortOrdered_int.F K) slices_pdqsortOrdered_int.cv noCalls))
theorem C_ok {α : Type} (K : Nat) : CallsOk (α := α) M (C K) := (entryD_ok (entryD_ok noCalls_ok (by rfl) Tryz.func150 (by kernel_rfl) rfl (slices_pdqsortOrdered_int.rets K)) (by rfl) Tryz.func151 (by kernel_rfl) rfl (math_bits_Len.rets K))
noncomputable def CP {α : Type} (K : Nat) : CutBy α := noCuts
theorem CP_ok {α : Type} (K : Nat)  : CutsOk (α := α) M 1 (CP K) := noCuts_ok
noncomputable def f (K : Nat) (a0 : List Int) : Option (List Int) := (math_bits_Len.f K (IntKind.u64.wrap (↑a0.length : Int))).bind fun t => slices_pdqsortOrdered_int.f K K (0 : Int) (↑a0.length : Int) t a0
noncomputable def F (K : Nat) : sig.In → Option (List Int) := fun x => f K x.2.1
noncomputable def cv : sig.In → (List Int) → sig.Ou := fun x r => ((), (r, ()))
noncomputable def LP {α : Type} (K : Nat) : LoopsBy α := noLoops
theorem eq (K : Nat) (a0 : List Int) : runF M sig (C K) (eqBy M.P) (LP K) RF (CP K) 20 Tryz.f104 (bodyOf Tryz.f104) ((), (a0, ())) = (f K a0).bind fun r => some (cv ((), (a0, ())) r) := by
  unfold f
  try simp only [el]
  kernel_rfl
theorem rets (K : Nat) : ∀ x y, withCv (F K) cv x = some y → Rets M 104 sig x y := fun x y h => runF_rets (L := 20) (C_ok K) (eqBy_ok _) (by kernel_rfl) RF_ok (CP_ok K) (show LoopsOk M 1 (LP K) (loopsOf (bodyOf Tryz.f104)) from (show loopsOf (bodyOf Tryz.f104) = [] by kernel_rfl) ▸ noLoops_ok) (Nat.le_of_ble_eq_true rfl) Tryz.func104 (by kernel_rfl) ((eq K x.2.1).trans h)
end slices_Sort_int_int
namespace cfg_Reached
/-! ### cfg_Reached: function 51 -/
noncomputable def sig : Sig := ⟨(.agg (.cons (.ty .str) (.cons (.ty yI) (.cons (.ty yI) (.ty (.slice yBlock)))))), [], (.ty (.slice yI)), []⟩
noncomputable def RF : RefitBy := noRefit
theorem RF_ok : RefitOk M 0 RF := noRefit_ok
noncomputable def C {α : Type} (K : Nat) : CallsBy α := (entryD 103 cfg_gone.sig (cfg_gone.F K) cfg_gone.cv (entryD 104 slices_Sort_int_int.sig (slices_Sort_int_int.F K) slices_Sort_int_int.cv noCalls))
theorem C_ok {α : Type} (K : Nat) : CallsOk (α := α) M (C K) := (entryD_ok (entryD_ok noCalls_ok (by rfl) Tryz.func104 (by kernel_rfl) rfl (slices_Sort_int_int.rets K)) (by rfl) Tryz.func103 (by kernel_rfl) rfl (cfg_gone.rets K))
noncomputable def CP {α : Type} (K : Nat) : CutBy α := noCuts
theorem CP_ok {α : Type} (K : Nat)  : CutsOk (α := α) M 0 (CP K) := noCuts_ok
noncomputable def f (K : Nat) (a3 : List LBlock) : Option (List Int) := (cfg_gone.f K a3).bind fun t => slices_Sort_int_int.f K t.2.2.1
noncomputable def F (K : Nat) : sig.In → Option (List Int) := fun x => f K x.1.2.2.2
noncomputable def cv : sig.In → (List Int) → sig.Ou := fun x r => (r, ())
noncomputable def LP {α : Type} (K : Nat) : LoopsBy α := noLoops
theorem eq (K : Nat) (a0 : ByteArray) (a1 : Int) (a2 : Int) (a3 : List LBlock) : runF M sig (C K) (eqBy M.P) (LP K) RF (CP K) 20 Tryz.f51 (bodyOf Tryz.f51) ((a0, (a1, (a2, a3))), ()) = (f K a3).bind fun r => some (cv ((a0, (a1, (a2, a3))), ()) r) := by
  unfold f
  try simp only [el]
  kernel_rfl
theorem rets (K : Nat) : ∀ x y, withCv (F K) cv x = some y → Rets M 51 sig x y := fun x y h => runF_rets (L := 20) (C_ok K) (eqBy_ok _) (by kernel_rfl) RF_ok (CP_ok K) (show LoopsOk M 0 (LP K) (loopsOf (bodyOf Tryz.f51)) from (show loopsOf (bodyOf Tryz.f51) = [] by kernel_rfl) ▸ noLoops_ok) (Nat.le_of_ble_eq_true rfl) Tryz.func51 (by kernel_rfl) ((eq K x.1.1 x.1.2.1 x.1.2.2.1 x.1.2.2.2).trans h)
end cfg_Reached
namespace slices_Reverse_int_int
/-! ### slices_Reverse_int_int: function 105 -/
noncomputable def sig : Sig := ⟨(.own 0), [.list 3 yI []], .unit, [.list 3 yI []]⟩
noncomputable def RF : RefitBy := noRefit
theorem RF_ok : RefitOk M 1 RF := noRefit_ok
noncomputable def C {α : Type} (K : Nat) : CallsBy α := noCalls
theorem C_ok {α : Type} (K : Nat) : CallsOk (α := α) M (C K) := noCalls_ok
noncomputable def CP {α : Type} (K : Nat) : CutBy α := noCuts
theorem CP_ok {α : Type} (K : Nat)  : CutsOk (α := α) M 1 (CP K) := noCuts_ok
noncomputable def l0.h : SSh := ⟨[0, 2, 3], (.cons (.own 0) (.cons (.ty yI) (.ty yI))), [.list 3 yI []]⟩
noncomputable def l0.x : SSh := ⟨[], .unit, [.list 3 yI []]⟩
noncomputable def l0.cx : l0.h.I → (List Int) → l0.x.I := fun x r => ((), (r, ()))
noncomputable def l0.f (K : Nat) : Nat → Int → Int → List Int → Option (List Int)
  | 0, _, _, _ => none
  | k + 1, a0, a1, a2 => bif decide (a0 < a1) then bif decide ((0 : Int) ≤ a1) then bif a1.toNat.blt a2.length then a2[a1.toNat]?.bind fun t => bif decide ((0 : Int) ≤ a0) then bif a0.toNat.blt a2.length then a2[a0.toNat]?.bind fun t_1 => bif decide ((0 : Int) ≤ a0) then bif a0.toNat.blt a2.length then a2[a0.toNat]?.bind fun t_2 => bif decide ((0 : Int) ≤ a1) then bif a1.toNat.blt (a2.set a0.toNat t).length then (a2.set a0.toNat t)[a1.toNat]?.bind fun t_3 => l0.f K k (IntKind.i64.wrap (a0 + (1 : Int))) (IntKind.i64.wrap (a1 - (1 : Int))) ((a2.set a0.toNat t).set a1.toNat t_1) else none else none else none else none else none else none else none else none else some a2
noncomputable def l0.F (K : Nat) (k : Nat) : l0.h.I → Option (List Int) := fun x => l0.f K k x.1.2.1 x.1.2.2 x.2.1
noncomputable def l0.lp {α : Type} (K : Nat) : St → Kn α → Option α := lpX 1 28 0 l0.h l0.x (l0.F K K) l0.cx
noncomputable def l0.c : Code := nthLoop Tryz.f105 0
noncomputable def l0.LP {α : Type} (K : Nat) : LoopsBy α := noLoops
theorem l0.eq (K : Nat) (k : Nat) (a0 : Int) (a1 : Int) (a2 : List Int) : exec M (C K) (eqBy M.P) (l0.LP K) RF (CP K) 20 l0.c (Kl 1 l0.h (withCv (l0.F K k) l0.cx) (backX 1 28 0 l0.x)) (l0.h.enc 28 (((), (a0, a1)), (a2, ()))) = (l0.f K (k + 1) a0 a1 a2).bind fun r => some (l0.cx (((), (a0, a1)), (a2, ())) r) := by
  rw [l0.f]
  try simp only [el]
  kernel_rfl
theorem l0.leads (K : Nat) : ∀ k x y, withCv (l0.F K k) l0.cx x = some y → Leads M 1 (.loop l0.c) (l0.h.enc 28 x) (outX 28 0 l0.x y).1 (outX 28 0 l0.x y).2 :=
  loopX_sound (C_ok K) (eqBy_ok _) (by kernel_rfl) RF_ok (CP_ok K) (show LoopsOk M 1 (l0.LP K) (loopsOf l0.c) from (show loopsOf l0.c = [] by kernel_rfl) ▸ (noLoops_ok)) (Nat.le_of_ble_eq_true rfl) (Nat.le_of_ble_eq_true rfl) (fun x => rfl) (fun k x => l0.eq K k x.1.2.1 x.1.2.2 x.2.1)
theorem l0.lp_ok {α : Type} (K : Nat) : LoopOk (α := α) M 1 (nthLoop Tryz.f105 0) (l0.lp K) := lpX_ok (Nat.le_of_ble_eq_true rfl) (l0.leads K K)
noncomputable def f (K : Nat) (a0 : List Int) : Option (List Int) := l0.f K K (0 : Int) (IntKind.i64.wrap ((↑a0.length : Int) - (1 : Int))) a0
noncomputable def F (K : Nat) : sig.In → Option (List Int) := fun x => f K x.2.1
noncomputable def cv : sig.In → (List Int) → sig.Ou := fun x r => ((), (r, ()))
noncomputable def LP {α : Type} (K : Nat) : LoopsBy α := (lpPut 1 (l0.lp K) noLoops)
theorem eq (K : Nat) (a0 : List Int) : runF M sig (C K) (eqBy M.P) (LP K) RF (CP K) 20 Tryz.f105 (bodyOf Tryz.f105) ((), (a0, ())) = (f K a0).bind fun r => some (cv ((), (a0, ())) r) := by
  unfold f
  try simp only [el]
  kernel_rfl
theorem rets (K : Nat) : ∀ x y, withCv (F K) cv x = some y → Rets M 105 sig x y := fun x y h => runF_rets (L := 20) (C_ok K) (eqBy_ok _) (by kernel_rfl) RF_ok (CP_ok K) (show LoopsOk M 1 (LP K) (loopsOf (bodyOf Tryz.f105)) from (show loopsOf (bodyOf Tryz.f105) = [nthLoop Tryz.f105 0] by kernel_rfl) ▸ (loopsOk_put (key := 1) (by kernel_rfl) (l0.lp_ok K) noLoops_ok (by kernel_rfl))) (Nat.le_of_ble_eq_true rfl) Tryz.func105 (by kernel_rfl) ((eq K x.2.1).trans h)
end slices_Reverse_int_int
namespace cfg_Order
/-! ### cfg_Order: function 52 -/
noncomputable def sig : Sig := ⟨(.agg (.cons (.ty .str) (.cons (.ty yI) (.cons (.ty yI) (.ty (.slice yBlock)))))), [], (.own 0), [.list 3 yI []]⟩
noncomputable def RF : RefitBy := noRefit
theorem RF_ok : RefitOk M 0 RF := noRefit_ok
noncomputable def C {α : Type} (K : Nat) : CallsBy α := (entryD 103 cfg_gone.sig (cfg_gone.F K) cfg_gone.cv (entryD 105 slices_Reverse_int_int.sig (slices_Reverse_int_int.F K) slices_Reverse_int_int.cv noCalls))
theorem C_ok {α : Type} (K : Nat) : CallsOk (α := α) M (C K) := (entryD_ok (entryD_ok noCalls_ok (by rfl) Tryz.func105 (by kernel_rfl) rfl (slices_Reverse_int_int.rets K)) (by rfl) Tryz.func103 (by kernel_rfl) rfl (cfg_gone.rets K))
noncomputable def CP {α : Type} (K : Nat) : CutBy α := noCuts
theorem CP_ok {α : Type} (K : Nat)  : CutsOk (α := α) M 0 (CP K) := noCuts_ok
noncomputable def f (K : Nat) (a3 : List LBlock) : Option (List Int) := (cfg_gone.f K a3).bind fun t => slices_Reverse_int_int.f K t.2.2.1
noncomputable def F (K : Nat) : sig.In → Option (List Int) := fun x => f K x.1.2.2.2
noncomputable def cv : sig.In → (List Int) → sig.Ou := fun x r => ((), (r, ()))
noncomputable def LP {α : Type} (K : Nat) : LoopsBy α := noLoops
theorem eq (K : Nat) (a0 : ByteArray) (a1 : Int) (a2 : Int) (a3 : List LBlock) : runF M sig (C K) (eqBy M.P) (LP K) RF (CP K) 20 Tryz.f52 (bodyOf Tryz.f52) ((a0, (a1, (a2, a3))), ()) = (f K a3).bind fun r => some (cv ((a0, (a1, (a2, a3))), ()) r) := by
  unfold f
  try simp only [el]
  kernel_rfl
theorem rets (K : Nat) : ∀ x y, withCv (F K) cv x = some y → Rets M 52 sig x y := fun x y h => runF_rets (L := 20) (C_ok K) (eqBy_ok _) (by kernel_rfl) RF_ok (CP_ok K) (show LoopsOk M 0 (LP K) (loopsOf (bodyOf Tryz.f52)) from (show loopsOf (bodyOf Tryz.f52) = [] by kernel_rfl) ▸ noLoops_ok) (Nat.le_of_ble_eq_true rfl) Tryz.func52 (by kernel_rfl) ((eq K x.1.1 x.1.2.1 x.1.2.2.1 x.1.2.2.2).trans h)
end cfg_Order
namespace slices_isNaN_int
/-! ### slices_isNaN_int: function 153 -/
noncomputable def sig : Sig := ⟨(.ty yI), [], (.ty .bool), []⟩
noncomputable def RF : RefitBy := noRefit
theorem RF_ok : RefitOk M 0 RF := noRefit_ok
noncomputable def C {α : Type} (K : Nat) : CallsBy α := noCalls
theorem C_ok {α : Type} (K : Nat) : CallsOk (α := α) M (C K) := noCalls_ok
noncomputable def CP {α : Type} (K : Nat) : CutBy α := noCuts
theorem CP_ok {α : Type} (K : Nat)  : CutsOk (α := α) M 0 (CP K) := noCuts_ok
noncomputable def f (K : Nat) (a0 : Int) : Option (Bool) := some (a0 != a0)
noncomputable def F (K : Nat) : sig.In → Option (Bool) := fun x => f K x.1
noncomputable def cv : sig.In → Bool → sig.Ou := fun x r => (r, ())
noncomputable def LP {α : Type} (K : Nat) : LoopsBy α := noLoops
theorem eq (K : Nat) (a0 : Int) : runF M sig (C K) (eqBy M.P) (LP K) RF (CP K) 20 Tryz.f153 (bodyOf Tryz.f153) (a0, ()) = (f K a0).bind fun r => some (cv (a0, ()) r) := by
  unfold f
  try simp only [el]
  kernel_rfl
theorem rets (K : Nat) : ∀ x y, withCv (F K) cv x = some y → Rets M 153 sig x y := fun x y h => runF_rets (L := 20) (C_ok K) (eqBy_ok _) (by kernel_rfl) RF_ok (CP_ok K) (show LoopsOk M 0 (LP K) (loopsOf (bodyOf Tryz.f153)) from (show loopsOf (bodyOf Tryz.f153) = [] by kernel_rfl) ▸ noLoops_ok) (Nat.le_of_ble_eq_true rfl) Tryz.func153 (by kernel_rfl) ((eq K x.1).trans h)
end slices_isNaN_int
namespace slices_BinarySearch_int_int
/-! ### slices_BinarySearch_int_int: function 106 -/
noncomputable def sig : Sig := ⟨(.cons (.ty (.slice yI)) (.ty yI)), [], (.cons (.ty yI) (.ty .bool)), []⟩
noncomputable def RF : RefitBy := noRefit
theorem RF_ok : RefitOk M 0 RF := noRefit_ok
noncomputable def C {α : Type} (K : Nat) : CallsBy α := (entryD 152 cmp_Less_int.sig (cmp_Less_int.F K) cmp_Less_int.cv (entryD 153 slices_isNaN_int.sig (slices_isNaN_int.F K) slices_isNaN_int.cv noCalls))
theorem C_ok {α : Type} (K : Nat) : CallsOk (α := α) M (C K) := (entryD_ok (entryD_ok noCalls_ok (by rfl) Tryz.func153 (by kernel_rfl) rfl (slices_isNaN_int.rets K)) (by rfl) Tryz.func152 (by kernel_rfl) rfl (cmp_Less_int.rets K))
noncomputable def CP {α : Type} (K : Nat) : CutBy α := (cpPut 8 (rpCut M bindC [yI, .bool] [4, 5] (C K) (eqBy M.P)) noCuts)
theorem CP_ok {α : Type} (K : Nat)  : CutsOk (α := α) M 0 (CP K) := (cpPut_ok (rpCut_ok (C_ok K) (eqBy_ok _) (by kernel_rfl)) noCuts_ok)
noncomputable def l0.h : SSh := ⟨[0, 1, 6, 7, 8], (.cons (.ty (.slice yI)) (.cons (.ty yI) (.cons (.ty yI) (.cons (.ty yI) (.ty yI))))), []⟩
noncomputable def l0.x : SSh := ⟨[0, 1, 6, 7], (.cons (.ty (.slice yI)) (.cons (.ty yI) (.cons (.ty yI) (.ty yI)))), []⟩
noncomputable def l0.cx : l0.h.I → Int → l0.x.I := fun x r => ((x.1.1, (x.1.2.1, (x.1.2.2.1, r))), ())
noncomputable def l0.f (K : Nat) : Nat → List Int → Int → Int → Int → Option (Int)
  | 0, _, _, _, _ => none
  | k + 1, a0, a1, a3, a4 => bif decide (a3 < a4) then bif decide ((0 : Int) ≤ IntKind.i64.wrap ((IntKind.u64.wrap (IntKind.i64.wrap (a3 + a4))).fdiv ((2 : Int) ^ (1 : Nat)))) && true then a0[(IntKind.i64.wrap ((IntKind.u64.wrap (IntKind.i64.wrap (a3 + a4))).fdiv ((2 : Int) ^ (1 : Nat)))).toNat]?.bind fun t => (cmp_Less_int.f K t a1).bind fun t => bif t then l0.f K k a0 a1 (IntKind.i64.wrap (IntKind.i64.wrap ((IntKind.u64.wrap (IntKind.i64.wrap (a3 + a4))).fdiv ((2 : Int) ^ (1 : Nat))) + (1 : Int))) a4 else l0.f K k a0 a1 a3 (IntKind.i64.wrap ((IntKind.u64.wrap (IntKind.i64.wrap (a3 + a4))).fdiv ((2 : Int) ^ (1 : Nat)))) else none else some a3
noncomputable def l0.F (K : Nat) (k : Nat) : l0.h.I → Option (Int) := fun x => l0.f K k x.1.1 x.1.2.1 x.1.2.2.2.1 x.1.2.2.2.2
noncomputable def l0.lp {α : Type} (K : Nat) : St → Kn α → Option α := lpX 0 54 0 l0.h l0.x (l0.F K K) l0.cx
noncomputable def l0.c : Code := nthLoop Tryz.f106 0
noncomputable def l0.LP {α : Type} (K : Nat) : LoopsBy α := noLoops
theorem l0.eq (K : Nat) (k : Nat) (a0 : List Int) (a1 : Int) (a2 : Int) (a3 : Int) (a4 : Int) : exec M (C K) (eqBy M.P) (l0.LP K) RF (CP K) 20 l0.c (Kl 0 l0.h (withCv (l0.F K k) l0.cx) (backX 0 54 0 l0.x)) (l0.h.enc 54 ((a0, (a1, (a2, (a3, a4)))), ())) = (l0.f K (k + 1) a0 a1 a3 a4).bind fun r => some (l0.cx ((a0, (a1, (a2, (a3, a4)))), ()) r) := by
  rw [l0.f]
  try simp only [el]
  kernel_rfl
theorem l0.leads (K : Nat) : ∀ k x y, withCv (l0.F K k) l0.cx x = some y → Leads M 0 (.loop l0.c) (l0.h.enc 54 x) (outX 54 0 l0.x y).1 (outX 54 0 l0.x y).2 :=
  loopX_sound (C_ok K) (eqBy_ok _) (by kernel_rfl) RF_ok (CP_ok K) (show LoopsOk M 0 (l0.LP K) (loopsOf l0.c) from (show loopsOf l0.c = [] by kernel_rfl) ▸ (noLoops_ok)) (Nat.le_of_ble_eq_true rfl) (Nat.le_of_ble_eq_true rfl) (fun x => rfl) (fun k x => l0.eq K k x.1.1 x.1.2.1 x.1.2.2.1 x.1.2.2.2.1 x.1.2.2.2.2)
theorem l0.lp_ok {α : Type} (K : Nat) : LoopOk (α := α) M 0 (nthLoop Tryz.f106 0) (l0.lp K) := lpX_ok (Nat.le_of_ble_eq_true rfl) (l0.leads K K)
noncomputable def f (K : Nat) (a0 : List Int) (a1 : Int) : Option (Int × Bool) := (l0.f K K a0 a1 (0 : Int) (↑a0.length : Int)).bind fun t => bindC (bif decide (t < (↑a0.length : Int)) then bif decide ((0 : Int) ≤ t) && true then a0[t.toNat]?.bind fun t_1 => bif t_1 == a1 then some (t, true) else bif decide ((0 : Int) ≤ t) && true then a0[t.toNat]?.bind fun t_2 => (slices_isNaN_int.f K t_2).bind fun t_3 => bif t_3 then (slices_isNaN_int.f K a1).bind fun t_4 => some (t, t_4) else some (t, false) else none else none else some (t, false)) fun t => some (t.1, t.2)
noncomputable def F (K : Nat) : sig.In → Option (Int × Bool) := fun x => f K x.1.1 x.1.2
noncomputable def cv : sig.In → (Int × Bool) → sig.Ou := fun x r => ((r.1, r.2), ())
noncomputable def LP {α : Type} (K : Nat) : LoopsBy α := (lpPut 3 (l0.lp K) noLoops)
theorem eq (K : Nat) (a0 : List Int) (a1 : Int) : runF M sig (C K) (eqBy M.P) (LP K) RF (CP K) 20 Tryz.f106 (bodyOf Tryz.f106) ((a0, a1), ()) = (f K a0 a1).bind fun r => some (cv ((a0, a1), ()) r) := by
  unfold f
  try simp only [el]
  kernel_rfl
theorem rets (K : Nat) : ∀ x y, withCv (F K) cv x = some y → Rets M 106 sig x y := fun x y h => runF_rets (L := 20) (C_ok K) (eqBy_ok _) (by kernel_rfl) RF_ok (CP_ok K) (show LoopsOk M 0 (LP K) (loopsOf (bodyOf Tryz.f106)) from (show loopsOf (bodyOf Tryz.f106) = [nthLoop Tryz.f106 0] by kernel_rfl) ▸ (loopsOk_put (key := 3) (by kernel_rfl) (l0.lp_ok K) noLoops_ok (by kernel_rfl))) (Nat.le_of_ble_eq_true rfl) Tryz.func106 (by kernel_rfl) ((eq K x.1.1 x.1.2).trans h)
end slices_BinarySearch_int_int
namespace bits_Has
/-! ### bits_Has: function 53 -/
noncomputable def sig : Sig := ⟨(.cons (.ty (.slice yI)) (.ty yI)), [], (.ty .bool), []⟩
noncomputable def RF : RefitBy := noRefit
theorem RF_ok : RefitOk M 0 RF := noRefit_ok
noncomputable def C {α : Type} (K : Nat) : CallsBy α := (entryD 106 slices_BinarySearch_int_int.sig (slices_BinarySearch_int_int.F K) slices_BinarySearch_int_int.cv noCalls)
theorem C_ok {α : Type} (K : Nat) : CallsOk (α := α) M (C K) := (entryD_ok noCalls_ok (by rfl) Tryz.func106 (by kernel_rfl) rfl (slices_BinarySearch_int_int.rets K))
noncomputable def CP {α : Type} (K : Nat) : CutBy α := noCuts
theorem CP_ok {α : Type} (K : Nat)  : CutsOk (α := α) M 0 (CP K) := noCuts_ok
noncomputable def f (K : Nat) (a0 : List Int) (a1 : Int) : Option (Bool) := (slices_BinarySearch_int_int.f K a0 a1).bind fun t => some t.2
noncomputable def F (K : Nat) : sig.In → Option (Bool) := fun x => f K x.1.1 x.1.2
noncomputable def cv : sig.In → Bool → sig.Ou := fun x r => (r, ())
noncomputable def LP {α : Type} (K : Nat) : LoopsBy α := noLoops
theorem eq (K : Nat) (a0 : List Int) (a1 : Int) : runF M sig (C K) (eqBy M.P) (LP K) RF (CP K) 20 Tryz.f53 (bodyOf Tryz.f53) ((a0, a1), ()) = (f K a0 a1).bind fun r => some (cv ((a0, a1), ()) r) := by
  unfold f
  try simp only [el]
  kernel_rfl
theorem rets (K : Nat) : ∀ x y, withCv (F K) cv x = some y → Rets M 53 sig x y := fun x y h => runF_rets (L := 20) (C_ok K) (eqBy_ok _) (by kernel_rfl) RF_ok (CP_ok K) (show LoopsOk M 0 (LP K) (loopsOf (bodyOf Tryz.f53)) from (show loopsOf (bodyOf Tryz.f53) = [] by kernel_rfl) ▸ noLoops_ok) (Nat.le_of_ble_eq_true rfl) Tryz.func53 (by kernel_rfl) ((eq K x.1.1 x.1.2).trans h)
end bits_Has
namespace cfg_Relaid
/-! ### cfg_Relaid: function 12 -/
noncomputable def sig : Sig := ⟨(.agg (.cons (.ty .str) (.cons (.ty yI) (.cons (.ty yI) (.ty (.slice yBlock)))))), [], (.agg (.cons (.ty .str) (.cons (.ty yI) (.cons (.ty yI) (.ty (.slice yBlock)))))), []⟩
noncomputable def RF : RefitBy := noRefit
theorem RF_ok : RefitOk M 0 RF := noRefit_ok
noncomputable def C {α : Type} (K : Nat) : CallsBy α := (entryD 51 cfg_Reached.sig (cfg_Reached.F K) cfg_Reached.cv (entryD 52 cfg_Order.sig (cfg_Order.F K) cfg_Order.cv (entryD 53 bits_Has.sig (bits_Has.F K) bits_Has.cv (entryD 11 ir_Copy.sig (ir_Copy.F K) ir_Copy.cv noCalls))))
theorem C_ok {α : Type} (K : Nat) : CallsOk (α := α) M (C K) := (entryD_ok (entryD_ok (entryD_ok (entryD_ok noCalls_ok (by rfl) Tryz.func11 (by kernel_rfl) rfl (ir_Copy.rets K)) (by rfl) Tryz.func53 (by kernel_rfl) rfl (bits_Has.rets K)) (by rfl) Tryz.func52 (by kernel_rfl) rfl (cfg_Order.rets K)) (by rfl) Tryz.func51 (by kernel_rfl) rfl (cfg_Reached.rets K))
noncomputable def CP {α : Type} (K : Nat) : CutBy α := noCuts
theorem CP_ok {α : Type} (K : Nat)  : CutsOk (α := α) M 0 (CP K) := noCuts_ok
noncomputable def l2.h : SSh := ⟨[2, 6, 9, 10, 58, 59, 60], (.cons (.ptr 0 0) (.cons (.own 1) (.cons (.ptr 2 0) (.cons (.own 3) (.cons (.own 4) (.cons (.ty yI) (.ty yI))))))), [.cells 47 0 (.cons (.ty .str) (.cons (.ty yI) (.cons (.ty yI) (.own 5)))), .list 3 yI [], .cells 47 0 (.cons (.ty .str) (.cons (.ty yI) (.cons (.ty yI) (.ty (.slice yBlock))))), .list 91 yBlock [], .list 3 yI [], .list 91 yBlock []]⟩
noncomputable def l2.x : SSh := ⟨[2, 9, 10], (.cons (.ptr 0 0) (.cons (.ptr 1 0) (.own 2))), [.cells 47 0 (.cons (.ty .str) (.cons (.ty yI) (.cons (.ty yI) (.own 3)))), .cells 47 0 (.cons (.ty .str) (.cons (.ty yI) (.cons (.ty yI) (.ty (.slice yBlock))))), .list 91 yBlock [], .list 91 yBlock []]⟩
noncomputable def l2.cx : l2.h.I → (List LBlock) → l2.x.I := fun x r => (((), ((), ())), ((x.2.1.1, (x.2.1.2.1, (x.2.1.2.2.1, ()))), ((x.2.2.2.1.1, (x.2.2.2.1.2.1, (x.2.2.2.1.2.2.1, x.2.2.2.1.2.2.2))), (r, (x.2.2.2.2.2.2.1, ())))))
noncomputable def l2.f (K : Nat) : Nat → Int → Int → List Int → List LBlock → List LBlock → List Int → Option (List LBlock)
  | 0, _, _, _, _, _, _ => none
  | k + 1, a0, a1, a5, a9, a10, a11 => bif decide (a1 < a0) then bif decide ((0 : Int) ≤ a1) then bif a1.toNat.blt a11.length then a11[a1.toNat]?.bind fun t => bif decide ((0 : Int) ≤ t) && true then a9[Int.toNat t]?.bind fun t => bif t.2.1 == (2 : Int) then bif decide ((0 : Int) ≤ t.2.2.2.2) then bif (Int.toNat t.2.2.2.2).blt a5.length then a5[Int.toNat t.2.2.2.2]?.bind fun t_1 => bif decide ((0 : Int) ≤ t.2.2.2.1) then bif (Int.toNat t.2.2.2.1).blt a5.length then a5[Int.toNat t.2.2.2.1]?.bind fun t_2 => bif decide ((0 : Int) ≤ a1) then bif a1.toNat.blt a10.length then a10[a1.toNat]?.bind fun t_3 => l2.f K k a0 (IntKind.i64.wrap (a1 + (1 : Int))) a5 a9 (a10.set a1.toNat (t.1, t.2.1, t.2.2.1, t_2, t_1)) a11 else none else none else none else none else none else none else bif t.2.1 == (1 : Int) then bif decide ((0 : Int) ≤ t.2.2.2.1) then bif (Int.toNat t.2.2.2.1).blt a5.length then a5[Int.toNat t.2.2.2.1]?.bind fun t_1 => bif decide ((0 : Int) ≤ a1) then bif a1.toNat.blt a10.length then a10[a1.toNat]?.bind fun t_2 => l2.f K k a0 (IntKind.i64.wrap (a1 + (1 : Int))) a5 a9 (a10.set a1.toNat (t.1, t.2.1, t.2.2.1, t_1, t.2.2.2.2)) a11 else none else none else none else none else bif decide ((0 : Int) ≤ a1) then bif a1.toNat.blt a10.length then a10[a1.toNat]?.bind fun t_1 => l2.f K k a0 (IntKind.i64.wrap (a1 + (1 : Int))) a5 a9 (a10.set a1.toNat (t.1, t.2.1, t.2.2.1, t.2.2.2.1, t.2.2.2.2)) a11 else none else none else none else none else none else some a10
noncomputable def l2.F (K : Nat) (k : Nat) : l2.h.I → Option (List LBlock) := fun x => l2.f K k x.1.2.2.2.2.2.1 x.1.2.2.2.2.2.2 x.2.2.1 x.2.2.2.1.2.2.2 x.2.2.2.2.1 x.2.2.2.2.2.1
noncomputable def l2.lp {α : Type} (K : Nat) : St → Kn α → Option α := lpX 0 101 4 l2.h l2.x (l2.F K K) l2.cx
noncomputable def l2.c : Code := nthLoop Tryz.f12 2
noncomputable def l2.LP {α : Type} (K : Nat) : LoopsBy α := noLoops
theorem l2.eq (K : Nat) (k : Nat) (a0 : Int) (a1 : Int) (a2 : ByteArray) (a3 : Int) (a4 : Int) (a5 : List Int) (a6 : ByteArray) (a7 : Int) (a8 : Int) (a9 : List LBlock) (a10 : List LBlock) (a11 : List Int) (a12 : List LBlock) : exec M (C K) (eqBy M.P) (l2.LP K) RF (CP K) 20 l2.c (Kl 0 l2.h (withCv (l2.F K k) l2.cx) (backX 0 101 4 l2.x)) (l2.h.enc 101 (((), ((), ((), ((), ((), (a0, a1)))))), ((a2, (a3, (a4, ()))), (a5, ((a6, (a7, (a8, a9))), (a10, (a11, (a12, ())))))))) = (l2.f K (k + 1) a0 a1 a5 a9 a10 a11).bind fun r => some (l2.cx (((), ((), ((), ((), ((), (a0, a1)))))), ((a2, (a3, (a4, ()))), (a5, ((a6, (a7, (a8, a9))), (a10, (a11, (a12, ()))))))) r) := by
  rw [l2.f]
  try simp only [el]
  kernel_rfl
theorem l2.leads (K : Nat) : ∀ k x y, withCv (l2.F K k) l2.cx x = some y → Leads M 0 (.loop l2.c) (l2.h.enc 101 x) (outX 101 4 l2.x y).1 (outX 101 4 l2.x y).2 :=
  loopX_sound (C_ok K) (eqBy_ok _) (by kernel_rfl) RF_ok (CP_ok K) (show LoopsOk M 0 (l2.LP K) (loopsOf l2.c) from (show loopsOf l2.c = [] by kernel_rfl) ▸ (noLoops_ok)) (Nat.le_of_ble_eq_true rfl) (Nat.le_of_ble_eq_true rfl) (fun x => rfl) (fun k x => l2.eq K k x.1.2.2.2.2.2.1 x.1.2.2.2.2.2.2 x.2.1.1 x.2.1.2.1 x.2.1.2.2.1 x.2.2.1 x.2.2.2.1.1 x.2.2.2.1.2.1 x.2.2.2.1.2.2.1 x.2.2.2.1.2.2.2 x.2.2.2.2.1 x.2.2.2.2.2.1 x.2.2.2.2.2.2.1)
theorem l2.lp_ok {α : Type} (K : Nat) : LoopOk (α := α) M 0 (nthLoop Tryz.f12 2) (l2.lp K) := lpX_ok (Nat.le_of_ble_eq_true rfl) (l2.leads K K)
noncomputable def l1.h : SSh := ⟨[1, 2, 4, 6, 36, 37, 38], (.cons (.ptr 0 0) (.cons (.ptr 1 0) (.cons (.own 2) (.cons (.own 3) (.cons (.own 2) (.cons (.ty yI) (.ty yI))))))), [.cells 47 0 (.cons (.ty .str) (.cons (.ty yI) (.cons (.ty yI) (.ty (.slice yBlock))))), .cells 47 0 (.cons (.ty .str) (.cons (.ty yI) (.cons (.ty yI) (.own 4)))), .list 3 yI [], .list 3 yI [], .list 91 yBlock []]⟩
noncomputable def l1.x : SSh := ⟨[1, 2, 4, 6], (.cons (.ptr 0 0) (.cons (.ptr 1 0) (.cons (.own 2) (.own 3)))), [.cells 47 0 (.cons (.ty .str) (.cons (.ty yI) (.cons (.ty yI) (.ty (.slice yBlock))))), .cells 47 0 (.cons (.ty .str) (.cons (.ty yI) (.cons (.ty yI) (.own 4)))), .list 3 yI [], .list 3 yI [], .list 91 yBlock []]⟩
noncomputable def l1.cx : l1.h.I → (List Int) → l1.x.I := fun x r => (((), ((), ((), ()))), ((x.2.1.1, (x.2.1.2.1, (x.2.1.2.2.1, x.2.1.2.2.2))), ((x.2.2.1.1, (x.2.2.1.2.1, (x.2.2.1.2.2.1, ()))), (x.2.2.2.1, (r, (x.2.2.2.2.2.1, ()))))))
noncomputable def l1.f (K : Nat) : Nat → Int → Int → List Int → List Int → Option (List Int)
  | 0, _, _, _, _ => none
  | k + 1, a0, a1, a9, a10 => bif decide (a1 < a0) then bif decide ((0 : Int) ≤ a1) then bif a1.toNat.blt a9.length then a9[a1.toNat]?.bind fun t => bif decide ((0 : Int) ≤ t) then bif (Int.toNat t).blt a10.length then a10[Int.toNat t]?.bind fun t_1 => l1.f K k a0 (IntKind.i64.wrap (a1 + (1 : Int))) a9 (a10.set (Int.toNat t) a1) else none else none else none else none else some a10
noncomputable def l1.F (K : Nat) (k : Nat) : l1.h.I → Option (List Int) := fun x => l1.f K k x.1.2.2.2.2.2.1 x.1.2.2.2.2.2.2 x.2.2.2.1 x.2.2.2.2.1
noncomputable def l1.lp {α : Type} (K : Nat) : St → Kn α → Option α := lpX 0 101 2 l1.h l1.x (l1.F K K) l1.cx
noncomputable def l1.c : Code := nthLoop Tryz.f12 1
noncomputable def l1.LP {α : Type} (K : Nat) : LoopsBy α := noLoops
theorem l1.eq (K : Nat) (k : Nat) (a0 : Int) (a1 : Int) (a2 : ByteArray) (a3 : Int) (a4 : Int) (a5 : List LBlock) (a6 : ByteArray) (a7 : Int) (a8 : Int) (a9 : List Int) (a10 : List Int) (a11 : List LBlock) : exec M (C K) (eqBy M.P) (l1.LP K) RF (CP K) 20 l1.c (Kl 0 l1.h (withCv (l1.F K k) l1.cx) (backX 0 101 2 l1.x)) (l1.h.enc 101 (((), ((), ((), ((), ((), (a0, a1)))))), ((a2, (a3, (a4, a5))), ((a6, (a7, (a8, ()))), (a9, (a10, (a11, ()))))))) = (l1.f K (k + 1) a0 a1 a9 a10).bind fun r => some (l1.cx (((), ((), ((), ((), ((), (a0, a1)))))), ((a2, (a3, (a4, a5))), ((a6, (a7, (a8, ()))), (a9, (a10, (a11, ())))))) r) := by
  rw [l1.f]
  try simp only [el]
  kernel_rfl
theorem l1.leads (K : Nat) : ∀ k x y, withCv (l1.F K k) l1.cx x = some y → Leads M 0 (.loop l1.c) (l1.h.enc 101 x) (outX 101 2 l1.x y).1 (outX 101 2 l1.x y).2 :=
  loopX_sound (C_ok K) (eqBy_ok _) (by kernel_rfl) RF_ok (CP_ok K) (show LoopsOk M 0 (l1.LP K) (loopsOf l1.c) from (show loopsOf l1.c = [] by kernel_rfl) ▸ (noLoops_ok)) (Nat.le_of_ble_eq_true rfl) (Nat.le_of_ble_eq_true rfl) (fun x => rfl) (fun k x => l1.eq K k x.1.2.2.2.2.2.1 x.1.2.2.2.2.2.2 x.2.1.1 x.2.1.2.1 x.2.1.2.2.1 x.2.1.2.2.2 x.2.2.1.1 x.2.2.1.2.1 x.2.2.1.2.2.1 x.2.2.2.1 x.2.2.2.2.1 x.2.2.2.2.2.1)
theorem l1.lp_ok {α : Type} (K : Nat) : LoopOk (α := α) M 0 (nthLoop Tryz.f12 1) (l1.lp K) := lpX_ok (Nat.le_of_ble_eq_true rfl) (l1.leads K K)
noncomputable def l0.h : SSh := ⟨[1, 2, 3, 4, 20, 21], (.cons (.ptr 0 0) (.cons (.ptr 1 0) (.cons (.ty (.slice yI)) (.cons (.own 2) (.cons (.ty yI) (.ty yI)))))), [.cells 47 0 (.cons (.ty .str) (.cons (.ty yI) (.cons (.ty yI) (.ty (.slice yBlock))))), .cells 47 0 (.cons (.ty .str) (.cons (.ty yI) (.cons (.ty yI) (.own 3)))), .list 3 yI [], .list 91 yBlock []]⟩
noncomputable def l0.x : SSh := ⟨[1, 2, 4], (.cons (.ptr 0 0) (.cons (.ptr 1 0) (.own 2))), [.cells 47 0 (.cons (.ty .str) (.cons (.ty yI) (.cons (.ty yI) (.ty (.slice yBlock))))), .cells 47 0 (.cons (.ty .str) (.cons (.ty yI) (.cons (.ty yI) (.own 3)))), .list 3 yI [], .list 91 yBlock []]⟩
noncomputable def l0.cx : l0.h.I → (List Int) → l0.x.I := fun x r => (((), ((), ())), ((x.2.1.1, (x.2.1.2.1, (x.2.1.2.2.1, x.2.1.2.2.2))), ((x.2.2.1.1, (x.2.2.1.2.1, (x.2.2.1.2.2.1, ()))), (r, (x.2.2.2.2.1, ())))))
noncomputable def l0.f (K : Nat) : Nat → List Int → Int → Int → List Int → Option (List Int)
  | 0, _, _, _, _ => none
  | k + 1, a0, a1, a2, a10 => bif decide (a2 < a1) then (bits_Has.f K a0 a2).bind fun t => bif !t then bif (a10.length + [a2].length).ble (100000 : Nat) then l0.f K k a0 a1 (IntKind.i64.wrap (a2 + (1 : Int))) (a10 ++ [a2]) else none else l0.f K k a0 a1 (IntKind.i64.wrap (a2 + (1 : Int))) a10 else some a10
noncomputable def l0.F (K : Nat) (k : Nat) : l0.h.I → Option (List Int) := fun x => l0.f K k x.1.2.2.1 x.1.2.2.2.2.1 x.1.2.2.2.2.2 x.2.2.2.1
noncomputable def l0.lp {α : Type} (K : Nat) : St → Kn α → Option α := lpX 0 101 0 l0.h l0.x (l0.F K K) l0.cx
noncomputable def l0.c : Code := nthLoop Tryz.f12 0
noncomputable def l0.LP {α : Type} (K : Nat) : LoopsBy α := noLoops
theorem l0.eq (K : Nat) (k : Nat) (a0 : List Int) (a1 : Int) (a2 : Int) (a3 : ByteArray) (a4 : Int) (a5 : Int) (a6 : List LBlock) (a7 : ByteArray) (a8 : Int) (a9 : Int) (a10 : List Int) (a11 : List LBlock) : exec M (C K) (eqBy M.P) (l0.LP K) RF (CP K) 20 l0.c (Kl 0 l0.h (withCv (l0.F K k) l0.cx) (backX 0 101 0 l0.x)) (l0.h.enc 101 (((), ((), (a0, ((), (a1, a2))))), ((a3, (a4, (a5, a6))), ((a7, (a8, (a9, ()))), (a10, (a11, ())))))) = (l0.f K (k + 1) a0 a1 a2 a10).bind fun r => some (l0.cx (((), ((), (a0, ((), (a1, a2))))), ((a3, (a4, (a5, a6))), ((a7, (a8, (a9, ()))), (a10, (a11, ()))))) r) := by
  rw [l0.f]
  try simp only [el]
  kernel_rfl
theorem l0.leads (K : Nat) : ∀ k x y, withCv (l0.F K k) l0.cx x = some y → Leads M 0 (.loop l0.c) (l0.h.enc 101 x) (outX 101 0 l0.x y).1 (outX 101 0 l0.x y).2 :=
  loopX_sound (C_ok K) (eqBy_ok _) (by kernel_rfl) RF_ok (CP_ok K) (show LoopsOk M 0 (l0.LP K) (loopsOf l0.c) from (show loopsOf l0.c = [] by kernel_rfl) ▸ (noLoops_ok)) (Nat.le_of_ble_eq_true rfl) (Nat.le_of_ble_eq_true rfl) (fun x => rfl) (fun k x => l0.eq K k x.1.2.2.1 x.1.2.2.2.2.1 x.1.2.2.2.2.2 x.2.1.1 x.2.1.2.1 x.2.1.2.2.1 x.2.1.2.2.2 x.2.2.1.1 x.2.2.1.2.1 x.2.2.1.2.2.1 x.2.2.2.1 x.2.2.2.2.1)
theorem l0.lp_ok {α : Type} (K : Nat) : LoopOk (α := α) M 0 (nthLoop Tryz.f12 0) (l0.lp K) := lpX_ok (Nat.le_of_ble_eq_true rfl) (l0.leads K K)
noncomputable def f (K : Nat) (a0 : ByteArray) (a1 : Int) (a2 : Int) (a3 : List LBlock) : Option (ByteArray × Int × Int × List LBlock) := (cfg_Reached.f K a3).bind fun t => (cfg_Order.f K a3).bind fun t_1 => (l0.f K K t (↑a3.length : Int) (0 : Int) t_1).bind fun t => bif decide ((↑t.length : Int) ≤ (100000 : Int)) && (↑t.length : Int) == (↑t.length : Int) && true && true && true then (l1.f K K (↑t.length : Int) (0 : Int) t (List.replicate (↑t.length : Int).toNat (0 : Int))).bind fun t_2 => (ir_Copy.f K [] [(a0, a1, a2, a3)] []).bind fun t_3 => t_3.2.1[(0 : Nat)]?.bind fun t_4 => bif decide ((↑t.length : Int) ≤ (100000 : Int)) && (↑t.length : Int) == (↑t.length : Int) && true && true && true then (l2.f K K (↑t.length : Int) (0 : Int) t_2 t_4.2.2.2 (List.replicate (↑t.length : Int).toNat ([], (0 : Int), (0 : Int), (0 : Int), (0 : Int))) t).bind fun t => some (t_4.1, t_4.2.1, t_4.2.2.1, t) else none else none
noncomputable def F (K : Nat) : sig.In → Option (ByteArray × Int × Int × List LBlock) := fun x => f K x.1.1 x.1.2.1 x.1.2.2.1 x.1.2.2.2
noncomputable def cv : sig.In → (ByteArray × Int × Int × List LBlock) → sig.Ou := fun x r => ((r.1, (r.2.1, (r.2.2.1, r.2.2.2))), ())
noncomputable def LP {α : Type} (K : Nat) : LoopsBy α := (lpPut 4 (l0.lp K) (lpPut 11 (l1.lp K) (lpPut 18 (l2.lp K) noLoops)))
theorem eq (K : Nat) (a0 : ByteArray) (a1 : Int) (a2 : Int) (a3 : List LBlock) : runF M sig (C K) (eqBy M.P) (LP K) RF (CP K) 20 Tryz.f12 (bodyOf Tryz.f12) ((a0, (a1, (a2, a3))), ()) = (f K a0 a1 a2 a3).bind fun r => some (cv ((a0, (a1, (a2, a3))), ()) r) := by
  unfold f
  try simp only [el]
  kernel_rfl
theorem rets (K : Nat) : ∀ x y, withCv (F K) cv x = some y → Rets M 12 sig x y := fun x y h => runF_rets (L := 20) (C_ok K) (eqBy_ok _) (by kernel_rfl) RF_ok (CP_ok K) (show LoopsOk M 0 (LP K) (loopsOf (bodyOf Tryz.f12)) from (show loopsOf (bodyOf Tryz.f12) = [nthLoop Tryz.f12 0, nthLoop Tryz.f12 1, nthLoop Tryz.f12 2] by kernel_rfl) ▸ (loopsOk_put (key := 4) (by kernel_rfl) (l0.lp_ok K) (loopsOk_put (key := 11) (by kernel_rfl) (l1.lp_ok K) (loopsOk_put (key := 18) (by kernel_rfl) (l2.lp_ok K) noLoops_ok (by kernel_rfl)) (by kernel_rfl)) (by kernel_rfl))) (Nat.le_of_ble_eq_true rfl) Tryz.func12 (by kernel_rfl) ((eq K x.1.1 x.1.2.1 x.1.2.2.1 x.1.2.2.2).trans h)
end cfg_Relaid
namespace vm_Machine_How
/-! ### vm_Machine_How: function 15 -/
noncomputable def sig : Sig := ⟨(.ptr 0 0), [.cells 132 0 (.cons (.ty (.ptr yprogram)) (.cons (.own 1) (.cons (.ty (.slice yI)) (.cons (.own 2) (.cons (.own 3) (.cons (.ty yI) (.ty yI))))))), .list 2 yI [], .list 2 yI [], .list 86 (.pair yI (.pair yI (.pair yI (.pair (.own 0) (.own 1))))) [4, 5], .many 2 yI, .many 3 yI], (.ty yI), [.cells 132 0 (.cons (.ty (.ptr yprogram)) (.cons (.own 1) (.cons (.ty (.slice yI)) (.cons (.own 2) (.cons (.own 3) (.cons (.ty yI) (.ty yI))))))), .list 2 yI [], .list 2 yI [], .list 86 (.pair yI (.pair yI (.pair yI (.pair (.own 0) (.own 1))))) [4, 5], .many 2 yI, .many 3 yI]⟩
noncomputable def RF : RefitBy := noRefit
theorem RF_ok : RefitOk M 6 RF := noRefit_ok
noncomputable def C {α : Type} (K : Nat) : CallsBy α := noCalls
theorem C_ok {α : Type} (K : Nat) : CallsOk (α := α) M (C K) := noCalls_ok
noncomputable def CP {α : Type} (K : Nat) : CutBy α := noCuts
theorem CP_ok {α : Type} (K : Nat)  : CutsOk (α := α) M 6 (CP K) := noCuts_ok
noncomputable def f (K : Nat) : Option (Unit) := some ()
noncomputable def F (K : Nat) : sig.In → Option (Unit) := fun x => f K
noncomputable def cv : sig.In → Unit → sig.Ou := fun x r => (x.2.1.2.2.2.2.2.1, ((x.2.1.1, ((), (x.2.1.2.2.1, ((), ((), (x.2.1.2.2.2.2.2.1, x.2.1.2.2.2.2.2.2)))))), (x.2.2.1, (x.2.2.2.1, (x.2.2.2.2.1, (x.2.2.2.2.2.1, (x.2.2.2.2.2.2.1, ())))))))
noncomputable def LP {α : Type} (K : Nat) : LoopsBy α := noLoops
theorem eq (K : Nat) (a0 : Option Lprogram) (a1 : List Int) (a2 : Int) (a3 : Int) (a4 : List Int) (a5 : List Int) (a6 : List (Int × Int × Int × Nat × Nat)) (a7 : List (List Int)) (a8 : List (List Int)) : runF M sig (C K) (eqBy M.P) (LP K) RF (CP K) 20 Tryz.f15 (bodyOf Tryz.f15) ((), ((a0, ((), (a1, ((), ((), (a2, a3)))))), (a4, (a5, (a6, (a7, (a8, ()))))))) = (f K).bind fun r => some (cv ((), ((a0, ((), (a1, ((), ((), (a2, a3)))))), (a4, (a5, (a6, (a7, (a8, ()))))))) r) := by
  unfold f
  try simp only [el]
  kernel_rfl
theorem rets (K : Nat) : ∀ x y, withCv (F K) cv x = some y → Rets M 15 sig x y := fun x y h => runF_rets (L := 20) (C_ok K) (eqBy_ok _) (by kernel_rfl) RF_ok (CP_ok K) (show LoopsOk M 6 (LP K) (loopsOf (bodyOf Tryz.f15)) from (show loopsOf (bodyOf Tryz.f15) = [] by kernel_rfl) ▸ noLoops_ok) (Nat.le_of_ble_eq_true rfl) Tryz.func15 (by kernel_rfl) ((eq K x.2.1.1 x.2.1.2.2.1 x.2.1.2.2.2.2.2.1 x.2.1.2.2.2.2.2.2 x.2.2.1 x.2.2.2.1 x.2.2.2.2.1 x.2.2.2.2.2.1 x.2.2.2.2.2.2.1).trans h)
end vm_Machine_How
namespace vm_Machine_Out
/-! ### vm_Machine_Out: function 18 -/
noncomputable def sig : Sig := ⟨(.ptr 0 0), [.cells 132 0 (.cons (.ty (.ptr yprogram)) (.cons (.own 1) (.cons (.ty (.slice yI)) (.cons (.own 2) (.cons (.own 3) (.cons (.ty yI) (.ty yI))))))), .list 2 yI [], .list 2 yI [], .list 86 (.pair yI (.pair yI (.pair yI (.pair (.own 0) (.own 1))))) [4, 5], .many 2 yI, .many 3 yI], (.ty (.slice yI)), [.cells 132 0 (.cons (.ty (.ptr yprogram)) (.cons (.own 1) (.cons (.ty (.slice yI)) (.cons (.own 2) (.cons (.own 3) (.cons (.ty yI) (.ty yI))))))), .list 2 yI [], .list 2 yI [], .list 86 (.pair yI (.pair yI (.pair yI (.pair (.own 0) (.own 1))))) [4, 5], .many 2 yI, .many 3 yI]⟩
noncomputable def RF : RefitBy := noRefit
theorem RF_ok : RefitOk M 6 RF := noRefit_ok
noncomputable def C {α : Type} (K : Nat) : CallsBy α := (entryD 48 slices_Clone_int64_int64_in.sig (slices_Clone_int64_int64_in.F K) slices_Clone_int64_int64_in.cv noCalls)
theorem C_ok {α : Type} (K : Nat) : CallsOk (α := α) M (C K) := (entryD_ok noCalls_ok (by rfl) Tryz.func48 (by kernel_rfl) rfl (slices_Clone_int64_int64_in.rets K))
noncomputable def CP {α : Type} (K : Nat) : CutBy α := noCuts
theorem CP_ok {α : Type} (K : Nat)  : CutsOk (α := α) M 6 (CP K) := noCuts_ok
noncomputable def f (K : Nat) (a5 : List Int) : Option (List Int) := slices_Clone_int64_int64_in.f K a5
noncomputable def F (K : Nat) : sig.In → Option (List Int) := fun x => f K x.2.2.2.1
noncomputable def cv : sig.In → (List Int) → sig.Ou := fun x r => (r, ((x.2.1.1, ((), (x.2.1.2.2.1, ((), ((), (x.2.1.2.2.2.2.2.1, x.2.1.2.2.2.2.2.2)))))), (x.2.2.1, (x.2.2.2.1, (x.2.2.2.2.1, (x.2.2.2.2.2.1, (x.2.2.2.2.2.2.1, ())))))))
noncomputable def LP {α : Type} (K : Nat) : LoopsBy α := noLoops
theorem eq (K : Nat) (a0 : Option Lprogram) (a1 : List Int) (a2 : Int) (a3 : Int) (a4 : List Int) (a5 : List Int) (a6 : List (Int × Int × Int × Nat × Nat)) (a7 : List (List Int)) (a8 : List (List Int)) : runF M sig (C K) (eqBy M.P) (LP K) RF (CP K) 20 Tryz.f18 (bodyOf Tryz.f18) ((), ((a0, ((), (a1, ((), ((), (a2, a3)))))), (a4, (a5, (a6, (a7, (a8, ()))))))) = (f K a5).bind fun r => some (cv ((), ((a0, ((), (a1, ((), ((), (a2, a3)))))), (a4, (a5, (a6, (a7, (a8, ()))))))) r) := by
  unfold f
  try simp only [el]
  kernel_rfl
theorem rets (K : Nat) : ∀ x y, withCv (F K) cv x = some y → Rets M 18 sig x y := fun x y h => runF_rets (L := 20) (C_ok K) (eqBy_ok _) (by kernel_rfl) RF_ok (CP_ok K) (show LoopsOk M 6 (LP K) (loopsOf (bodyOf Tryz.f18)) from (show loopsOf (bodyOf Tryz.f18) = [] by kernel_rfl) ▸ noLoops_ok) (Nat.le_of_ble_eq_true rfl) Tryz.func18 (by kernel_rfl) ((eq K x.2.1.1 x.2.1.2.2.1 x.2.1.2.2.2.2.2.1 x.2.1.2.2.2.2.2.2 x.2.2.1 x.2.2.2.1 x.2.2.2.2.1 x.2.2.2.2.2.1 x.2.2.2.2.2.2.1).trans h)
end vm_Machine_Out
namespace avermentlaw07_Nums
/-! ### avermentlaw07_Nums: function 17 -/
noncomputable def sig : Sig := ⟨(.cons (.ty (.slice yI)) (.ty (.slice yI))), [], (.ty .bool), []⟩
noncomputable def RF : RefitBy := noRefit
theorem RF_ok : RefitOk M 0 RF := noRefit_ok
noncomputable def C {α : Type} (K : Nat) : CallsBy α := noCalls
theorem C_ok {α : Type} (K : Nat) : CallsOk (α := α) M (C K) := noCalls_ok
noncomputable def CP {α : Type} (K : Nat) : CutBy α := noCuts
theorem CP_ok {α : Type} (K : Nat)  : CutsOk (α := α) M 0 (CP K) := noCuts_ok
noncomputable def l0.h : SSh := ⟨[0, 1, 5], (.cons (.ty (.slice yI)) (.cons (.ty (.slice yI)) (.ty yI))), []⟩
noncomputable def l0.x : SSh := ⟨[], .unit, []⟩
noncomputable def l0.r : SSh := ⟨[4], (.ty .bool), []⟩
noncomputable def l0.cx : l0.h.I → Unit → l0.x.I := fun x r => ((), ())
noncomputable def l0.cr : l0.h.I → Bool → l0.r.I := fun x r => (r, ())
noncomputable def l0.f (K : Nat) : Nat → List Int → List Int → Int → Option ((Unit) ⊕ (Bool))
  | 0, _, _, _ => none
  | k + 1, a0, a1, a2 => bif decide (a2 < (↑a0.length : Int)) then bif decide ((0 : Int) ≤ a2) && true then a0[a2.toNat]?.bind fun t => bif decide ((0 : Int) ≤ a2) && true then a1[a2.toNat]?.bind fun t_1 => bif t != t_1 then some (Sum.inr false) else l0.f K k a0 a1 (IntKind.i64.wrap (a2 + (1 : Int))) else none else none else some (Sum.inl ())
noncomputable def l0.F (K : Nat) (k : Nat) : l0.h.I → Option ((Unit) ⊕ (Bool)) := fun x => l0.f K k x.1.1 x.1.2.1 x.1.2.2
noncomputable def l0.lp {α : Type} (K : Nat) : St → Kn α → Option α := lpXRD 0 26 0 l0.h l0.x l0.r (l0.F K K) l0.cx l0.cr
noncomputable def l0.c : Code := nthLoop Tryz.f17 0
noncomputable def l0.LP {α : Type} (K : Nat) : LoopsBy α := noLoops
theorem l0.eq (K : Nat) (k : Nat) (a0 : List Int) (a1 : List Int) (a2 : Int) : exec M (C K) (eqBy M.P) (l0.LP K) RF (CP K) 20 l0.c (Kl 0 l0.h (withCv (l0.F K k) (smap l0.cx l0.cr)) (backXR 0 0 l0.x l0.r)) (l0.h.enc 26 ((a0, (a1, a2)), ())) = (l0.f K (k + 1) a0 a1 a2).bind fun r => some ((smap l0.cx l0.cr) ((a0, (a1, a2)), ()) r) := by
  rw [l0.f]
  try simp only [el]
  kernel_rfl
theorem l0.leads (K : Nat) : ∀ k x y, withCv (l0.F K k) (smap l0.cx l0.cr) x = some y → Leads M 0 (.loop l0.c) (l0.h.enc 26 x) (outXR 26 0 l0.x l0.r y).1 (outXR 26 0 l0.x l0.r y).2 :=
  loopXR_sound (C_ok K) (eqBy_ok _) (by kernel_rfl) RF_ok (CP_ok K) (show LoopsOk M 0 (l0.LP K) (loopsOf l0.c) from (show loopsOf l0.c = [] by kernel_rfl) ▸ (noLoops_ok)) (Nat.le_of_ble_eq_true rfl) (Nat.le_of_ble_eq_true rfl) (Nat.le_of_ble_eq_true rfl) (fun x => rfl) (fun k x => l0.eq K k x.1.1 x.1.2.1 x.1.2.2)
theorem l0.lp_ok {α : Type} (K : Nat) : LoopOk (α := α) M 0 (nthLoop Tryz.f17 0) (l0.lp K) := lpXRD_ok (Nat.le_of_ble_eq_true rfl) (l0.leads K K)
noncomputable def f (K : Nat) (a0 : List Int) (a1 : List Int) : Option (Bool) := bif (↑a0.length : Int) != (↑a1.length : Int) then some false else (l0.f K K a0 a1 (0 : Int)).bind fun t => Sum.elim (fun t => some true) (fun t => some t) t
noncomputable def F (K : Nat) : sig.In → Option (Bool) := fun x => f K x.1.1 x.1.2
noncomputable def cv : sig.In → Bool → sig.Ou := fun x r => (r, ())
noncomputable def LP {α : Type} (K : Nat) : LoopsBy α := (lpPut 4 (l0.lp K) noLoops)
theorem eq (K : Nat) (a0 : List Int) (a1 : List Int) : runF M sig (C K) (eqBy M.P) (LP K) RF (CP K) 20 Tryz.f17 (bodyOf Tryz.f17) ((a0, a1), ()) = (f K a0 a1).bind fun r => some (cv ((a0, a1), ()) r) := by
  unfold f
  try simp only [el]
  kernel_rfl
theorem rets (K : Nat) : ∀ x y, withCv (F K) cv x = some y → Rets M 17 sig x y := fun x y h => runF_rets (L := 20) (C_ok K) (eqBy_ok _) (by kernel_rfl) RF_ok (CP_ok K) (show LoopsOk M 0 (LP K) (loopsOf (bodyOf Tryz.f17)) from (show loopsOf (bodyOf Tryz.f17) = [nthLoop Tryz.f17 0] by kernel_rfl) ▸ (loopsOk_put (key := 4) (by kernel_rfl) (l0.lp_ok K) noLoops_ok (by kernel_rfl))) (Nat.le_of_ble_eq_true rfl) Tryz.func17 (by kernel_rfl) ((eq K x.1.1 x.1.2).trans h)
end avermentlaw07_Nums
namespace vm_Machine_Cells
/-! ### vm_Machine_Cells: function 19 -/
noncomputable def sig : Sig := ⟨(.ptr 0 0), [.cells 132 0 (.cons (.ty (.ptr yprogram)) (.cons (.own 1) (.cons (.ty (.slice yI)) (.cons (.own 2) (.cons (.own 3) (.cons (.ty yI) (.ty yI))))))), .list 2 yI [], .list 2 yI [], .list 86 (.pair yI (.pair yI (.pair yI (.pair (.own 0) (.own 1))))) [4, 5], .many 2 yI, .many 3 yI], (.ty (.slice yI)), [.cells 132 0 (.cons (.ty (.ptr yprogram)) (.cons (.own 1) (.cons (.ty (.slice yI)) (.cons (.own 2) (.cons (.own 3) (.cons (.ty yI) (.ty yI))))))), .list 2 yI [], .list 2 yI [], .list 86 (.pair yI (.pair yI (.pair yI (.pair (.own 0) (.own 1))))) [4, 5], .many 2 yI, .many 3 yI]⟩
noncomputable def RF : RefitBy := noRefit
theorem RF_ok : RefitOk M 6 RF := noRefit_ok
noncomputable def C {α : Type} (K : Nat) : CallsBy α := (entryD 48 slices_Clone_int64_int64_in.sig (slices_Clone_int64_int64_in.F K) slices_Clone_int64_int64_in.cv noCalls)
theorem C_ok {α : Type} (K : Nat) : CallsOk (α := α) M (C K) := (entryD_ok noCalls_ok (by rfl) Tryz.func48 (by kernel_rfl) rfl (slices_Clone_int64_int64_in.rets K))
noncomputable def CP {α : Type} (K : Nat) : CutBy α := noCuts
theorem CP_ok {α : Type} (K : Nat)  : CutsOk (α := α) M 6 (CP K) := noCuts_ok
noncomputable def f (K : Nat) (a4 : List Int) : Option (List Int) := slices_Clone_int64_int64_in.f K a4
noncomputable def F (K : Nat) : sig.In → Option (List Int) := fun x => f K x.2.2.1
noncomputable def cv : sig.In → (List Int) → sig.Ou := fun x r => (r, ((x.2.1.1, ((), (x.2.1.2.2.1, ((), ((), (x.2.1.2.2.2.2.2.1, x.2.1.2.2.2.2.2.2)))))), (x.2.2.1, (x.2.2.2.1, (x.2.2.2.2.1, (x.2.2.2.2.2.1, (x.2.2.2.2.2.2.1, ())))))))
noncomputable def LP {α : Type} (K : Nat) : LoopsBy α := noLoops
theorem eq (K : Nat) (a0 : Option Lprogram) (a1 : List Int) (a2 : Int) (a3 : Int) (a4 : List Int) (a5 : List Int) (a6 : List (Int × Int × Int × Nat × Nat)) (a7 : List (List Int)) (a8 : List (List Int)) : runF M sig (C K) (eqBy M.P) (LP K) RF (CP K) 20 Tryz.f19 (bodyOf Tryz.f19) ((), ((a0, ((), (a1, ((), ((), (a2, a3)))))), (a4, (a5, (a6, (a7, (a8, ()))))))) = (f K a4).bind fun r => some (cv ((), ((a0, ((), (a1, ((), ((), (a2, a3)))))), (a4, (a5, (a6, (a7, (a8, ()))))))) r) := by
  unfold f
  try simp only [el]
  kernel_rfl
theorem rets (K : Nat) : ∀ x y, withCv (F K) cv x = some y → Rets M 19 sig x y := fun x y h => runF_rets (L := 20) (C_ok K) (eqBy_ok _) (by kernel_rfl) RF_ok (CP_ok K) (show LoopsOk M 6 (LP K) (loopsOf (bodyOf Tryz.f19)) from (show loopsOf (bodyOf Tryz.f19) = [] by kernel_rfl) ▸ noLoops_ok) (Nat.le_of_ble_eq_true rfl) Tryz.func19 (by kernel_rfl) ((eq K x.2.1.1 x.2.1.2.2.1 x.2.1.2.2.2.2.2.1 x.2.1.2.2.2.2.2.2 x.2.2.1 x.2.2.2.1 x.2.2.2.2.1 x.2.2.2.2.2.1 x.2.2.2.2.2.2.1).trans h)
end vm_Machine_Cells
end
end Go.Proofs.YtdjkdmjdcdljmaaGreat.AR
