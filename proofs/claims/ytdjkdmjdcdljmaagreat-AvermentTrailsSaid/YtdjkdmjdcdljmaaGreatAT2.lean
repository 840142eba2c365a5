/- Written by a program of this session: what Go functions come to, as plain functions, each shown by the second machine. No condition. -/
import Derived.Test.YtdjkdmjdcdljmaaGreatAT1
namespace Go.Proofs.YtdjkdmjdcdljmaaGreat.AT
open Go.Proofs.YtdjkdmjdcdljmaaGreatX
noncomputable section
set_option linter.unusedVariables false
set_option linter.unusedSimpArgs false
set_option maxRecDepth 1000000
set_option maxHeartbeats 4000000
namespace ir_Site
noncomputable def sig : Sig := ⟨(.cons (.agg (.cons (.ty (.slice yI)) (.cons (.ty (.slice yFunc)) (.ty (.slice yImport))))) (.cons (.ty yI) (.cons (.ty yI) (.ty yI)))), [], (.ty yI), []⟩
noncomputable def C {α : Type} (K : Nat) : CallsBy α := callsE (M := M) [ir_within.e K, ir_Sets.e K, ir_First.e K, ir_Block_sets.e K]
noncomputable def CP {α : Type} (K : Nat) : CutBy α := (cpPut 1 (rpCut M bindC [.bool] [49] (C K) (eqBy M.P)) noCuts)
theorem CP_ok {α : Type} (K : Nat) : CutsOk (α := α) M 0 (CP K) := (cpPut_ok (rpCut_ok callsE_ok (eqBy_ok _) mxd) noCuts_ok)
noncomputable def l0.h : SSh := ⟨[13, 87, 88, 89], (.cons (.ty yI) (.cons (.ty (.slice yBlock)) (.cons (.ty yI) (.ty yI)))), []⟩
noncomputable def l0.x : SSh := ⟨[13], (.ty yI), []⟩
noncomputable def l0.cx : l0.h.I → Int → l0.x.I := fun x r => (r, ())
noncomputable def l0.f (K : Nat) : Nat → Int → List LBlock → Int → Int → Option (Int)
  | 0, _, _, _, _ => none
  | k + 1, a0, a1, a2, a3 => bif decide (a3 < a2) then bif decide ((0 : Int) ≤ a3) && true then a1[a3.toNat]?.bind fun t => (ir_Block_sets.f K t.1).bind fun t => l0.f K k (IntKind.i64.wrap (a0 + t)) a1 a2 (IntKind.i64.wrap (a3 + (1 : Int))) else none else some a0
noncomputable def l0.F (K : Nat) (k : Nat) : l0.h.I → Option (Int) := fun x => l0.f K k x.1.1 x.1.2.1 x.1.2.2.1 x.1.2.2.2
noncomputable def l0.lp {α : Type} (K : Nat) : St → Kn α → Option α := lpX 0 99 0 l0.h l0.x (l0.F K K) l0.cx
theorem l0.ok {α : Type} (K : Nat) : LoopOk (α := α) M 0 (nthLoop Tryz.f79 0) (l0.lp K) := lpX_okS (C := (C K)) (LP := noLoops) (RF := noRefit) (CP := (CP K)) (L := 20) callsE_ok mxd noRefit_ok (CP_ok K) (noL (by kernel_rfl)) (lb rfl) (lb rfl) (fun x => rfl) fun k x => by
  rw [withCv_def]
  unfold l0.F
  rw [l0.f]
  try simp only [el]
  kernel_rfl
noncomputable def f (K : Nat) (a1 : List LFunc) (a3 : Int) (a4 : Int) (a5 : Int) : Option (Int) := bindC ((ir_within.f K a3 (↑a1.length : Int)).bind fun t => bif !t then some true else bif decide ((0 : Int) ≤ a3) && true then a1[a3.toNat]?.bind fun t => (ir_within.f K a4 (↑(List.length t.2.2.2) : Int)).bind fun t => bif !t then some true else bif decide ((0 : Int) ≤ a3) && true then a1[a3.toNat]?.bind fun t => bif decide ((0 : Int) ≤ a4) && true then t.2.2.2[a4.toNat]?.bind fun t => (ir_within.f K a5 (↑(List.length t.1) : Int)).bind fun t => some !t else none else none else none) fun t => bif t then some (-1 : Int) else bif decide ((0 : Int) ≤ a3) && true then a1[a3.toNat]?.bind fun t => bif decide ((0 : Int) ≤ a4) && true then t.2.2.2[a4.toNat]?.bind fun t_1 => bif decide ((0 : Int) ≤ a5) && true then t_1.1[a5.toNat]?.bind fun t_2 => (ir_Sets.f K t_2.1 t_2.2.1).bind fun t_3 => bif !t_3.2 then some (-1 : Int) else (ir_First.f K a1 a3).bind fun t_4 => bif decide ((↑(0 : Nat) : Int) ≤ a5) && decide (a5 ≤ (↑(List.length t_1.1) : Int)) && true then (ir_Block_sets.f K (List.drop (0 : Nat) (List.take a5.toNat t_1.1))).bind fun t_5 => bif decide ((↑(0 : Nat) : Int) ≤ a4) && decide (a4 ≤ (↑(List.length t.2.2.2) : Int)) && true then l0.f K K (IntKind.i64.wrap (IntKind.i64.wrap (t_4 + if (0 : Int) > t.2.2.1 then (0 : Int) else t.2.2.1) + t_5)) (List.drop (0 : Nat) (List.take a4.toNat t.2.2.2)) (↑(List.drop (0 : Nat) (List.take a4.toNat t.2.2.2)).length : Int) (0 : Int) else none else none else none else none else none
noncomputable def F (K : Nat) : sig.In → Option (Int) := fun x => f K x.1.1.2.1 x.1.2.1 x.1.2.2.1 x.1.2.2.2
noncomputable def cv : sig.In → Int → sig.Ou := fun x r => (r, ())
theorem rets (K : Nat) : ∀ x y, withCv (F K) cv x = some y → Rets M 79 sig x y := runF_retsS (C := (C K)) (LP := (lpPut 10 (l0.lp K) noLoops)) (RF := noRefit) (CP := (CP K)) callsE_ok mxd noRefit_ok (CP_ok K) (show LoopsOk M 0 (lpPut 10 (l0.lp K) noLoops) (loopsOf (bodyOf Tryz.f79)) from (show loopsOf (bodyOf Tryz.f79) = [nthLoop Tryz.f79 0] by kernel_rfl) ▸ (loopsOk_put (key := 10) (by kernel_rfl) (l0.ok K) noLoops_ok (by kernel_rfl))) (lb rfl) Tryz.func79 (by kernel_rfl) fun x => by
  rw [withCv_def]
  unfold F f
  try simp only [el]
  kernel_rfl
noncomputable def e (K : Nat) : En M := ⟨79, sig, _, F K, cv, by rfl, Tryz.f79, Tryz.func79, by kernel_rfl, rfl, rets K⟩
end ir_Site
namespace known_Known_tidy
noncomputable def sig : Sig := ⟨(.agg (.cons (.ty .bool) (.ty yI))), [], (.agg (.cons (.ty .bool) (.ty yI))), []⟩
noncomputable def C {α : Type} (K : Nat) : CallsBy α := callsE (M := M) []
noncomputable def f (K : Nat) (a0 : Bool) (a1 : Int) : Option (Int) := bif !a0 then some (0 : Int) else some a1
noncomputable def F (K : Nat) : sig.In → Option (Int) := fun (x : ((Bool × Int) × Unit)) => f K x.1.1 x.1.2
noncomputable def cv : sig.In → Int → sig.Ou := fun x r => ((x.1.1, r), ())
theorem rets (K : Nat) : ∀ x y, withCv (F K) cv x = some y → Rets M 158 sig x y := runF_retsS (C := (C K)) (LP := noLoops) (RF := noRefit) (CP := noCuts) callsE_ok mxd noRefit_ok noCuts_ok (noL (by kernel_rfl)) (lb rfl) Tryz.func158 (by kernel_rfl) fun (x : ((Bool × Int) × Unit)) => by
  refine Eq.trans ?_ withCv_def.symm
  unfold F f
  try simp only [el]
  kernel_rfl
noncomputable def e (K : Nat) : En M := ⟨158, sig, _, F K, cv, by rfl, Tryz.f158, Tryz.func158, by kernel_rfl, rfl, rets K⟩
end known_Known_tidy
namespace known_One
noncomputable def sig : Sig := ⟨(.cons (.ty yI) (.agg (.cons (.ty .bool) (.ty yI)))), [], (.cons (.agg (.cons (.ty .bool) (.ty yI))) (.ty .bool)), []⟩
noncomputable def C {α : Type} (K : Nat) : CallsBy α := callsE (M := M) [known_Known_tidy.e K, known_Any.e K]
noncomputable def f (K : Nat) (a0 : Int) (a1 : Bool) (a2 : Int) : Option (Bool × Int × Bool) := bif a0 == (3 : Int) then bif a1 then (known_Known_tidy.f K a1 (IntKind.i64.wrap ((0 : Int) - a2))).bind fun t => some (a1, t, true) else (known_Known_tidy.f K a1 a2).bind fun t => some (a1, t, true) else bif a0 == (2 : Int) then (known_Known_tidy.f K a1 a2).bind fun t => some (a1, t, true) else (known_Any.f K).bind fun t => some (t.1, t.2, false)
noncomputable def F (K : Nat) : sig.In → Option (Bool × Int × Bool) := fun (x : ((Int × (Bool × Int)) × Unit)) => f K x.1.1 x.1.2.1 x.1.2.2
noncomputable def cv : sig.In → (Bool × Int × Bool) → sig.Ou := fun x r => (((r.1, r.2.1), r.2.2), ())
theorem rets (K : Nat) : ∀ x y, withCv (F K) cv x = some y → Rets M 181 sig x y := runF_retsS (C := (C K)) (LP := noLoops) (RF := noRefit) (CP := noCuts) callsE_ok mxd noRefit_ok noCuts_ok (noL (by kernel_rfl)) (lb rfl) Tryz.func181 (by kernel_rfl) fun (x : ((Int × (Bool × Int)) × Unit)) => by
  refine Eq.trans ?_ withCv_def.symm
  unfold F f
  try simp only [el]
  kernel_rfl
noncomputable def e (K : Nat) : En M := ⟨181, sig, _, F K, cv, by rfl, Tryz.f181, Tryz.func181, by kernel_rfl, rfl, rets K⟩
end known_One
namespace span_One
noncomputable def sig : Sig := ⟨(.cons (.ty yI) (.agg (.cons (.ty yI) (.ty yI)))), [], (.cons (.agg (.cons (.ty yI) (.ty yI))) (.ty .bool)), []⟩
noncomputable def C {α : Type} (K : Nat) : CallsBy α := callsE (M := M) [span_Of.e K, span_Any.e K]
noncomputable def CP {α : Type} (K : Nat) : CutBy α := (cpPut 2 (rpCut M bindC [.bool] [6] (C K) (eqBy M.P)) (cpPut 4 (rpCut M bindC [.bool] [17] (C K) (eqBy M.P)) noCuts))
theorem CP_ok {α : Type} (K : Nat) : CutsOk (α := α) M 0 (CP K) := (cpPut_ok (rpCut_ok callsE_ok (eqBy_ok _) mxd) (cpPut_ok (rpCut_ok callsE_ok (eqBy_ok _) mxd) noCuts_ok))
noncomputable def f (K : Nat) (a0 : Int) (a1 : Int) (a2 : Int) : Option (Int × Int × Bool) := bif a0 == (2 : Int) then some (a1, a2, true) else bindC (bif a0 == (3 : Int) then (span_Of.f K).bind fun t => some (bif false then !(a1 == (-9223372036854775808 : Int) && a2 == (-9223372036854775808 : Int)) else a1 == (-9223372036854775808 : Int) && a2 == (-9223372036854775808 : Int)) else some false) fun t => bif t then some (a1, a2, true) else bindC (bif a0 == (3 : Int) then some (a1 == (-9223372036854775808 : Int)) else some false) fun t => bif t then (span_Any.f K).bind fun t => some (t.1, t.2, true) else bif a0 == (3 : Int) then some (IntKind.i64.wrap ((0 : Int) - a2), IntKind.i64.wrap ((0 : Int) - a1), true) else some ((0 : Int), (0 : Int), false)
noncomputable def F (K : Nat) : sig.In → Option (Int × Int × Bool) := fun x => f K x.1.1 x.1.2.1 x.1.2.2
noncomputable def cv : sig.In → (Int × Int × Bool) → sig.Ou := fun x r => (((r.1, r.2.1), r.2.2), ())
theorem rets (K : Nat) : ∀ x y, withCv (F K) cv x = some y → Rets M 182 sig x y := runF_retsS (C := (C K)) (LP := noLoops) (RF := noRefit) (CP := (CP K)) callsE_ok mxd noRefit_ok (CP_ok K) (noL (by kernel_rfl)) (lb rfl) Tryz.func182 (by kernel_rfl) fun x => by
  rw [withCv_def]
  unfold F f
  try simp only [el]
  kernel_rfl
noncomputable def e (K : Nat) : En M := ⟨182, sig, _, F K, cv, by rfl, Tryz.f182, Tryz.func182, by kernel_rfl, rfl, rets K⟩
end span_One
namespace sign_One
noncomputable def sig : Sig := ⟨(.cons (.ty yI) (.ty yI)), [], (.ty yI), []⟩
noncomputable def C {α : Type} (K : Nat) : CallsBy α := callsE (M := M) []
noncomputable def f (K : Nat) (a0 : Int) (a1 : Int) : Option (Int) := bif a0 == (2 : Int) then some (IntKind.i64.wrap (↑(BitVec.ofInt (64 : Nat) a1 &&& BitVec.ofInt (64 : Nat) (7 : Int)).toNat : Int)) else bif a0 == (3 : Int) then bif IntKind.i64.wrap (↑(BitVec.ofInt (64 : Nat) a1 &&& BitVec.ofInt (64 : Nat) (1 : Int)).toNat : Int) != (0 : Int) then bif IntKind.i64.wrap (↑(BitVec.ofInt (64 : Nat) a1 &&& BitVec.ofInt (64 : Nat) (4 : Int)).toNat : Int) != (0 : Int) then some (IntKind.i64.wrap (↑(BitVec.ofInt (64 : Nat) (IntKind.i64.wrap (↑(BitVec.ofInt (64 : Nat) (IntKind.i64.wrap (↑(BitVec.ofInt (64 : Nat) a1 &&& BitVec.ofInt (64 : Nat) (3 : Int)).toNat : Int)) ||| BitVec.ofInt (64 : Nat) (4 : Int)).toNat : Int)) ||| BitVec.ofInt (64 : Nat) (1 : Int)).toNat : Int)) else some (IntKind.i64.wrap (↑(BitVec.ofInt (64 : Nat) (IntKind.i64.wrap (↑(BitVec.ofInt (64 : Nat) a1 &&& BitVec.ofInt (64 : Nat) (3 : Int)).toNat : Int)) ||| BitVec.ofInt (64 : Nat) (4 : Int)).toNat : Int)) else bif IntKind.i64.wrap (↑(BitVec.ofInt (64 : Nat) a1 &&& BitVec.ofInt (64 : Nat) (4 : Int)).toNat : Int) != (0 : Int) then some (IntKind.i64.wrap (↑(BitVec.ofInt (64 : Nat) (IntKind.i64.wrap (↑(BitVec.ofInt (64 : Nat) a1 &&& BitVec.ofInt (64 : Nat) (3 : Int)).toNat : Int)) ||| BitVec.ofInt (64 : Nat) (1 : Int)).toNat : Int)) else some (IntKind.i64.wrap (↑(BitVec.ofInt (64 : Nat) a1 &&& BitVec.ofInt (64 : Nat) (3 : Int)).toNat : Int)) else some (0 : Int)
noncomputable def F (K : Nat) : sig.In → Option (Int) := fun x => f K x.1.1 x.1.2
noncomputable def cv : sig.In → Int → sig.Ou := fun x r => (r, ())
theorem rets (K : Nat) : ∀ x y, withCv (F K) cv x = some y → Rets M 183 sig x y := runF_retsS (C := (C K)) (LP := noLoops) (RF := noRefit) (CP := noCuts) callsE_ok mxd noRefit_ok noCuts_ok (noL (by kernel_rfl)) (lb rfl) Tryz.func183 (by kernel_rfl) fun x => by
  rw [withCv_def]
  unfold F f
  try simp only [el]
  kernel_rfl
noncomputable def e (K : Nat) : En M := ⟨183, sig, _, F K, cv, by rfl, Tryz.f183, Tryz.func183, by kernel_rfl, rfl, rets K⟩
end sign_One
namespace parity_One
noncomputable def sig : Sig := ⟨(.cons (.ty yI) (.ty yI)), [], (.ty yI), []⟩
noncomputable def C {α : Type} (K : Nat) : CallsBy α := callsE (M := M) []
noncomputable def f (K : Nat) (a0 : Int) (a1 : Int) : Option (Int) := bif a0 == (2 : Int) then some (IntKind.i64.wrap (↑(BitVec.ofInt (64 : Nat) a1 &&& BitVec.ofInt (64 : Nat) (3 : Int)).toNat : Int)) else bif a0 == (3 : Int) then some (IntKind.i64.wrap (↑(BitVec.ofInt (64 : Nat) a1 &&& BitVec.ofInt (64 : Nat) (3 : Int)).toNat : Int)) else some (0 : Int)
noncomputable def F (K : Nat) : sig.In → Option (Int) := fun x => f K x.1.1 x.1.2
noncomputable def cv : sig.In → Int → sig.Ou := fun x r => (r, ())
theorem rets (K : Nat) : ∀ x y, withCv (F K) cv x = some y → Rets M 184 sig x y := runF_retsS (C := (C K)) (LP := noLoops) (RF := noRefit) (CP := noCuts) callsE_ok mxd noRefit_ok noCuts_ok (noL (by kernel_rfl)) (lb rfl) Tryz.func184 (by kernel_rfl) fun x => by
  rw [withCv_def]
  unfold F f
  try simp only [el]
  kernel_rfl
noncomputable def e (K : Nat) : En M := ⟨184, sig, _, F K, cv, by rfl, Tryz.f184, Tryz.func184, by kernel_rfl, rfl, rets K⟩
end parity_One
namespace fact_whole
noncomputable def sig : Sig := ⟨(.cons (.ty yI) (.cons (.agg (.cons (.ty .bool) (.ty yI))) (.cons (.ty .bool) (.cons (.agg (.cons (.ty yI) (.ty yI))) (.cons (.ty .bool) (.ty yI)))))), [], (.cons (.agg (.cons (.ty yI) (.cons (.ty .bool) (.cons (.ty yI) (.cons (.ty yI) (.cons (.ty yI) (.ty yI))))))) (.ty .bool)), []⟩
noncomputable def C {α : Type} (K : Nat) : CallsBy α := callsE (M := M) []
noncomputable def CP {α : Type} (K : Nat) : CutBy α := (cpPut 1 (rpCut M bindC [.bool] [27] (C K) (eqBy M.P)) noCuts)
theorem CP_ok {α : Type} (K : Nat) : CutsOk (α := α) M 0 (CP K) := (cpPut_ok (rpCut_ok callsE_ok (eqBy_ok _) mxd) noCuts_ok)
noncomputable def f (K : Nat) (a0 : Int) (a1 : Bool) (a2 : Int) (a3 : Bool) (a4 : Int) (a5 : Int) (a6 : Bool) (a7 : Int) : Option (Int × Bool × Int × Int × Int × Int × Bool) := bindC (bif a0 == (0 : Int) then some true else bif !a3 then some true else bif !a6 then some true else some (a7 == (0 : Int))) fun t => bif t then some ((0 : Int), false, (0 : Int), (0 : Int), (0 : Int), (0 : Int), false) else some (a0, a1, a2, a4, a5, a7, true)
noncomputable def F (K : Nat) : sig.In → Option (Int × Bool × Int × Int × Int × Int × Bool) := fun (x : ((Int × ((Bool × Int) × (Bool × ((Int × Int) × (Bool × Int))))) × Unit)) => f K x.1.1 x.1.2.1.1 x.1.2.1.2 x.1.2.2.1 x.1.2.2.2.1.1 x.1.2.2.2.1.2 x.1.2.2.2.2.1 x.1.2.2.2.2.2
noncomputable def cv : sig.In → (Int × Bool × Int × Int × Int × Int × Bool) → sig.Ou := fun x r => (((r.1, (r.2.1, (r.2.2.1, (r.2.2.2.1, (r.2.2.2.2.1, r.2.2.2.2.2.1))))), r.2.2.2.2.2.2), ())
theorem rets (K : Nat) : ∀ x y, withCv (F K) cv x = some y → Rets M 123 sig x y := runF_retsS (C := (C K)) (LP := noLoops) (RF := noRefit) (CP := (CP K)) callsE_ok mxd noRefit_ok (CP_ok K) (noL (by kernel_rfl)) (lb rfl) Tryz.func123 (by kernel_rfl) fun (x : ((Int × ((Bool × Int) × (Bool × ((Int × Int) × (Bool × Int))))) × Unit)) => by
  refine Eq.trans ?_ withCv_def.symm
  unfold F f
  try simp only [el]
  kernel_rfl
noncomputable def e (K : Nat) : En M := ⟨123, sig, _, F K, cv, by rfl, Tryz.f123, Tryz.func123, by kernel_rfl, rfl, rets K⟩
end fact_whole
namespace fact_One
noncomputable def sig : Sig := ⟨(.cons (.ty yI) (.agg (.cons (.ty yI) (.cons (.ty .bool) (.cons (.ty yI) (.cons (.ty yI) (.cons (.ty yI) (.ty yI)))))))), [], (.cons (.agg (.cons (.ty yI) (.cons (.ty .bool) (.cons (.ty yI) (.cons (.ty yI) (.cons (.ty yI) (.ty yI))))))) (.ty .bool)), []⟩
noncomputable def C {α : Type} (K : Nat) : CallsBy α := callsE (M := M) [known_One.e K, span_One.e K, sign_One.e K, parity_One.e K, fact_whole.e K]
noncomputable def f (K : Nat) (a0 : Int) (a1 : Int) (a2 : Bool) (a3 : Int) (a4 : Int) (a5 : Int) (a6 : Int) : Option (Int × Bool × Int × Int × Int × Int × Bool) := (known_One.f K a0 a2 a3).bind fun t => (span_One.f K a0 a4 a5).bind fun t_1 => (sign_One.f K a0 a1).bind fun t_2 => (parity_One.f K a0 a6).bind fun t_3 => fact_whole.f K t_2 t.1 t.2.1 t.2.2 t_1.1 t_1.2.1 t_1.2.2 t_3
noncomputable def F (K : Nat) : sig.In → Option (Int × Bool × Int × Int × Int × Int × Bool) := fun (x : ((Int × (Int × (Bool × (Int × (Int × (Int × Int)))))) × Unit)) => f K x.1.1 x.1.2.1 x.1.2.2.1 x.1.2.2.2.1 x.1.2.2.2.2.1 x.1.2.2.2.2.2.1 x.1.2.2.2.2.2.2
noncomputable def cv : sig.In → (Int × Bool × Int × Int × Int × Int × Bool) → sig.Ou := fun x r => (((r.1, (r.2.1, (r.2.2.1, (r.2.2.2.1, (r.2.2.2.2.1, r.2.2.2.2.2.1))))), r.2.2.2.2.2.2), ())
theorem rets (K : Nat) : ∀ x y, withCv (F K) cv x = some y → Rets M 156 sig x y := runF_retsS (C := (C K)) (LP := noLoops) (RF := noRefit) (CP := noCuts) callsE_ok mxd noRefit_ok noCuts_ok (noL (by kernel_rfl)) (lb rfl) Tryz.func156 (by kernel_rfl) fun (x : ((Int × (Int × (Bool × (Int × (Int × (Int × Int)))))) × Unit)) => by
  refine Eq.trans ?_ withCv_def.symm
  unfold F f
  try simp only [el]
  kernel_rfl
noncomputable def e (K : Nat) : En M := ⟨156, sig, _, F K, cv, by rfl, Tryz.f156, Tryz.func156, by kernel_rfl, rfl, rets K⟩
end fact_One
namespace known_Two
noncomputable def sig : Sig := ⟨(.cons (.ty yI) (.cons (.agg (.cons (.ty .bool) (.ty yI))) (.agg (.cons (.ty .bool) (.ty yI))))), [], (.cons (.agg (.cons (.ty .bool) (.ty yI))) (.ty .bool)), []⟩
noncomputable def C {α : Type} (K : Nat) : CallsBy α := callsE (M := M) [known_Known_is.e K, known_Any.e K, vm_Arith.e K, known_Of.e K]
noncomputable def CP {α : Type} (K : Nat) : CutBy α := (cpPut 14 (rpCut M bindC [.bool] [33] (C K) (eqBy M.P)) noCuts)
theorem CP_ok {α : Type} (K : Nat) : CutsOk (α := α) M 0 (CP K) := (cpPut_ok (rpCut_ok callsE_ok (eqBy_ok _) mxd) noCuts_ok)
noncomputable def f (K : Nat) (a0 : Int) (a1 : Bool) (a2 : Int) (a3 : Bool) (a4 : Int) : Option (Bool × Int × Bool) := bif a0 == (7 : Int) then (known_Known_is.f K a3 a4 (0 : Int)).bind fun t => bif t then (known_Any.f K).bind fun t => some (t.1, t.2, false) else bindC (bif !a1 then some true else some !a3) fun t => bif t then (known_Any.f K).bind fun t => some (t.1, t.2, true) else (vm_Arith.f K a0 a2 a4).bind fun t => (known_Of.f K).bind fun t_1 => some (t_1, t.1, true) else bif a0 == (8 : Int) then (known_Known_is.f K a3 a4 (0 : Int)).bind fun t => bif t then (known_Any.f K).bind fun t => some (t.1, t.2, false) else bindC (bif !a1 then some true else some !a3) fun t => bif t then (known_Any.f K).bind fun t => some (t.1, t.2, true) else (vm_Arith.f K a0 a2 a4).bind fun t => (known_Of.f K).bind fun t_1 => some (t_1, t.1, true) else bif a0 == (4 : Int) then bindC (bif !a1 then some true else some !a3) fun t => bif t then (known_Any.f K).bind fun t => some (t.1, t.2, true) else (vm_Arith.f K a0 a2 a4).bind fun t => (known_Of.f K).bind fun t_1 => some (t_1, t.1, true) else bif a0 == (5 : Int) then bindC (bif !a1 then some true else some !a3) fun t => bif t then (known_Any.f K).bind fun t => some (t.1, t.2, true) else (vm_Arith.f K a0 a2 a4).bind fun t => (known_Of.f K).bind fun t_1 => some (t_1, t.1, true) else bif a0 == (6 : Int) then bindC (bif !a1 then some true else some !a3) fun t => bif t then (known_Any.f K).bind fun t => some (t.1, t.2, true) else (vm_Arith.f K a0 a2 a4).bind fun t => (known_Of.f K).bind fun t_1 => some (t_1, t.1, true) else bif a0 == (9 : Int) then bindC (bif !a1 then some true else some !a3) fun t => bif t then (known_Any.f K).bind fun t => some (t.1, t.2, true) else (vm_Arith.f K a0 a2 a4).bind fun t => (known_Of.f K).bind fun t_1 => some (t_1, t.1, true) else bif a0 == (10 : Int) then bindC (bif !a1 then some true else some !a3) fun t => bif t then (known_Any.f K).bind fun t => some (t.1, t.2, true) else (vm_Arith.f K a0 a2 a4).bind fun t => (known_Of.f K).bind fun t_1 => some (t_1, t.1, true) else bif a0 == (11 : Int) then bindC (bif !a1 then some true else some !a3) fun t => bif t then (known_Any.f K).bind fun t => some (t.1, t.2, true) else (vm_Arith.f K a0 a2 a4).bind fun t => (known_Of.f K).bind fun t_1 => some (t_1, t.1, true) else bif a0 == (12 : Int) then bindC (bif !a1 then some true else some !a3) fun t => bif t then (known_Any.f K).bind fun t => some (t.1, t.2, true) else (vm_Arith.f K a0 a2 a4).bind fun t => (known_Of.f K).bind fun t_1 => some (t_1, t.1, true) else (known_Any.f K).bind fun t => some (t.1, t.2, false)
noncomputable def F (K : Nat) : sig.In → Option (Bool × Int × Bool) := fun (x : ((Int × ((Bool × Int) × (Bool × Int))) × Unit)) => f K x.1.1 x.1.2.1.1 x.1.2.1.2 x.1.2.2.1 x.1.2.2.2
noncomputable def cv : sig.In → (Bool × Int × Bool) → sig.Ou := fun x r => (((r.1, r.2.1), r.2.2), ())
theorem rets (K : Nat) : ∀ x y, withCv (F K) cv x = some y → Rets M 185 sig x y := runF_retsS (C := (C K)) (LP := noLoops) (RF := noRefit) (CP := (CP K)) callsE_ok mxd noRefit_ok (CP_ok K) (noL (by kernel_rfl)) (lb rfl) Tryz.func185 (by kernel_rfl) fun (x : ((Int × ((Bool × Int) × (Bool × Int))) × Unit)) => by
  refine Eq.trans ?_ withCv_def.symm
  unfold F f
  try simp only [el]
  kernel_rfl
noncomputable def e (K : Nat) : En M := ⟨185, sig, _, F K, cv, by rfl, Tryz.f185, Tryz.func185, by kernel_rfl, rfl, rets K⟩
end known_Two
namespace span_sum
noncomputable def sig : Sig := ⟨(.cons (.ty yI) (.ty yI)), [], (.cons (.ty yI) (.ty .bool)), []⟩
noncomputable def C {α : Type} (K : Nat) : CallsBy α := callsE (M := M) []
noncomputable def f (K : Nat) (a0 : Int) (a1 : Int) : Option (Int × Bool) := some (IntKind.i64.wrap (a0 + a1), decide (IntKind.i64.wrap (↑(BitVec.ofInt (64 : Nat) (IntKind.i64.wrap (↑(BitVec.ofInt (64 : Nat) a0 ^^^ BitVec.ofInt (64 : Nat) (IntKind.i64.wrap (a0 + a1))).toNat : Int)) &&& BitVec.ofInt (64 : Nat) (IntKind.i64.wrap (↑(BitVec.ofInt (64 : Nat) a1 ^^^ BitVec.ofInt (64 : Nat) (IntKind.i64.wrap (a0 + a1))).toNat : Int))).toNat : Int) ≥ (0 : Int)))
noncomputable def F (K : Nat) : sig.In → Option (Int × Bool) := fun x => f K x.1.1 x.1.2
noncomputable def cv : sig.In → (Int × Bool) → sig.Ou := fun x r => ((r.1, r.2), ())
theorem rets (K : Nat) : ∀ x y, withCv (F K) cv x = some y → Rets M 201 sig x y := runF_retsS (C := (C K)) (LP := noLoops) (RF := noRefit) (CP := noCuts) callsE_ok mxd noRefit_ok noCuts_ok (noL (by kernel_rfl)) (lb rfl) Tryz.func201 (by kernel_rfl) fun x => by
  rw [withCv_def]
  unfold F f
  try simp only [el]
  kernel_rfl
noncomputable def e (K : Nat) : En M := ⟨201, sig, _, F K, cv, by rfl, Tryz.f201, Tryz.func201, by kernel_rfl, rfl, rets K⟩
end span_sum
namespace span_ends_put
noncomputable def sig : Sig := ⟨(.cons (.ptr 0 0) (.cons (.ty yI) (.ty .bool))), [.cells 301 0 (.cons (.ty yI) (.cons (.ty yI) (.cons (.ty .bool) (.ty .bool))))], .unit, [.cells 301 0 (.cons (.ty yI) (.cons (.ty yI) (.cons (.ty .bool) (.ty .bool))))]⟩
noncomputable def C {α : Type} (K : Nat) : CallsBy α := callsE (M := M) [span_Of.e K, span_Join.e K]
noncomputable def f (K : Nat) (a0 : Int) (a1 : Bool) (a2 : Int) (a3 : Int) (a4 : Bool) (a5 : Bool) : Option (Int × Int × Bool × Bool) := bif !a1 then some (a2, a3, a4, true) else bif !a4 then (span_Of.f K).bind fun t => some (a0, a0, true, a5) else (span_Of.f K).bind fun t => (span_Join.f K a2 a3 a0 a0).bind fun t => some (t.1, t.2, a4, a5)
noncomputable def F (K : Nat) : sig.In → Option (Int × Int × Bool × Bool) := fun (x : ((Unit × (Int × Bool)) × ((Int × (Int × (Bool × Bool))) × Unit))) => f K x.1.2.1 x.1.2.2 x.2.1.1 x.2.1.2.1 x.2.1.2.2.1 x.2.1.2.2.2
noncomputable def cv : sig.In → (Int × Int × Bool × Bool) → sig.Ou := fun x r => ((), ((r.1, (r.2.1, (r.2.2.1, r.2.2.2))), ()))
theorem rets (K : Nat) : ∀ x y, withCv (F K) cv x = some y → Rets M 200 sig x y := runF_retsS (C := (C K)) (LP := noLoops) (RF := noRefit) (CP := noCuts) callsE_ok mxd noRefit_ok noCuts_ok (noL (by kernel_rfl)) (lb rfl) Tryz.func200 (by kernel_rfl) fun (x : ((Unit × (Int × Bool)) × ((Int × (Int × (Bool × Bool))) × Unit))) => by
  refine Eq.trans ?_ withCv_def.symm
  unfold F f
  try simp only [el]
  kernel_rfl
noncomputable def e (K : Nat) : En M := ⟨200, sig, _, F K, cv, by rfl, Tryz.f200, Tryz.func200, by kernel_rfl, rfl, rets K⟩
end span_ends_put
namespace span_less
noncomputable def sig : Sig := ⟨(.cons (.ty yI) (.ty yI)), [], (.cons (.ty yI) (.ty .bool)), []⟩
noncomputable def C {α : Type} (K : Nat) : CallsBy α := callsE (M := M) []
noncomputable def f (K : Nat) (a0 : Int) (a1 : Int) : Option (Int × Bool) := some (IntKind.i64.wrap (a0 - a1), decide (IntKind.i64.wrap (↑(BitVec.ofInt (64 : Nat) (IntKind.i64.wrap (↑(BitVec.ofInt (64 : Nat) a0 ^^^ BitVec.ofInt (64 : Nat) a1).toNat : Int)) &&& BitVec.ofInt (64 : Nat) (IntKind.i64.wrap (↑(BitVec.ofInt (64 : Nat) a0 ^^^ BitVec.ofInt (64 : Nat) (IntKind.i64.wrap (a0 - a1))).toNat : Int))).toNat : Int) ≥ (0 : Int)))
noncomputable def F (K : Nat) : sig.In → Option (Int × Bool) := fun x => f K x.1.1 x.1.2
noncomputable def cv : sig.In → (Int × Bool) → sig.Ou := fun x r => ((r.1, r.2), ())
theorem rets (K : Nat) : ∀ x y, withCv (F K) cv x = some y → Rets M 202 sig x y := runF_retsS (C := (C K)) (LP := noLoops) (RF := noRefit) (CP := noCuts) callsE_ok mxd noRefit_ok noCuts_ok (noL (by kernel_rfl)) (lb rfl) Tryz.func202 (by kernel_rfl) fun x => by
  rw [withCv_def]
  unfold F f
  try simp only [el]
  kernel_rfl
noncomputable def e (K : Nat) : En M := ⟨202, sig, _, F K, cv, by rfl, Tryz.f202, Tryz.func202, by kernel_rfl, rfl, rets K⟩
end span_less
namespace span_product
noncomputable def sig : Sig := ⟨(.cons (.ty yI) (.ty yI)), [], (.cons (.ty yI) (.ty .bool)), []⟩
noncomputable def C {α : Type} (K : Nat) : CallsBy α := callsE (M := M) []
noncomputable def CP {α : Type} (K : Nat) : CutBy α := (cpPut 2 (rpCut M bindC [.bool] [15] (C K) (eqBy M.P)) (cpPut 4 (rpCut M bindC [yI, .bool] [4, 5] (C K) (eqBy M.P)) noCuts))
theorem CP_ok {α : Type} (K : Nat) : CutsOk (α := α) M 0 (CP K) := (cpPut_ok (rpCut_ok callsE_ok (eqBy_ok _) mxd) (cpPut_ok (rpCut_ok callsE_ok (eqBy_ok _) mxd) noCuts_ok))
noncomputable def f (K : Nat) (a0 : Int) (a1 : Int) : Option (Int × Bool) := bindC (bif a0 == (0 : Int) then some true else some (a1 == (0 : Int))) fun t => bif t then some ((0 : Int), true) else bindC (bif a1 == (0 : Int) then none else bif IntKind.i64.wrap ((IntKind.i64.wrap (a0 * a1)).tdiv a1) == a0 then bif a1 == (-1 : Int) then bif !a0 == (-9223372036854775808 : Int) then bif a0 == (-1 : Int) then some (IntKind.i64.wrap (a0 * a1), !a1 == (-9223372036854775808 : Int)) else some (IntKind.i64.wrap (a0 * a1), true) else some (IntKind.i64.wrap (a0 * a1), false) else bif a0 == (-1 : Int) then some (IntKind.i64.wrap (a0 * a1), !a1 == (-9223372036854775808 : Int)) else some (IntKind.i64.wrap (a0 * a1), true) else some (IntKind.i64.wrap (a0 * a1), false)) fun t => some (t.1, t.2)
noncomputable def F (K : Nat) : sig.In → Option (Int × Bool) := fun x => f K x.1.1 x.1.2
noncomputable def cv : sig.In → (Int × Bool) → sig.Ou := fun x r => ((r.1, r.2), ())
theorem rets (K : Nat) : ∀ x y, withCv (F K) cv x = some y → Rets M 203 sig x y := runF_retsS (C := (C K)) (LP := noLoops) (RF := noRefit) (CP := (CP K)) callsE_ok mxd noRefit_ok (CP_ok K) (noL (by kernel_rfl)) (lb rfl) Tryz.func203 (by kernel_rfl) fun x => by
  rw [withCv_def]
  unfold F f
  try simp only [el]
  kernel_rfl
noncomputable def e (K : Nat) : En M := ⟨203, sig, _, F K, cv, by rfl, Tryz.f203, Tryz.func203, by kernel_rfl, rfl, rets K⟩
end span_product
namespace span_Right
noncomputable def sig : Sig := ⟨(.agg (.cons (.ty yI) (.ty yI))), [], (.ty .bool), []⟩
noncomputable def C {α : Type} (K : Nat) : CallsBy α := callsE (M := M) []
noncomputable def f (K : Nat) (a0 : Int) (a1 : Int) : Option (Bool) := some (decide (a0 ≤ a1))
noncomputable def F (K : Nat) : sig.In → Option (Bool) := fun x => f K x.1.1 x.1.2
noncomputable def cv : sig.In → Bool → sig.Ou := fun x r => (r, ())
theorem rets (K : Nat) : ∀ x y, withCv (F K) cv x = some y → Rets M 222 sig x y := runF_retsS (C := (C K)) (LP := noLoops) (RF := noRefit) (CP := noCuts) callsE_ok mxd noRefit_ok noCuts_ok (noL (by kernel_rfl)) (lb rfl) Tryz.func222 (by kernel_rfl) fun x => by
  rw [withCv_def]
  unfold F f
  try simp only [el]
  kernel_rfl
noncomputable def e (K : Nat) : En M := ⟨222, sig, _, F K, cv, by rfl, Tryz.f222, Tryz.func222, by kernel_rfl, rfl, rets K⟩
end span_Right
namespace span_Meet
noncomputable def sig : Sig := ⟨(.cons (.agg (.cons (.ty yI) (.ty yI))) (.agg (.cons (.ty yI) (.ty yI)))), [], (.cons (.agg (.cons (.ty yI) (.ty yI))) (.ty .bool)), []⟩
noncomputable def C {α : Type} (K : Nat) : CallsBy α := callsE (M := M) [span_Right.e K]
noncomputable def f (K : Nat) (a0 : Int) (a1 : Int) (a2 : Int) (a3 : Int) : Option (Int × Int × Bool) := (span_Right.f K (if a2 > a0 then a2 else a0) (if a3 < a1 then a3 else a1)).bind fun t => bif !t then some ((0 : Int), (0 : Int), false) else some (if a2 > a0 then a2 else a0, if a3 < a1 then a3 else a1, true)
noncomputable def F (K : Nat) : sig.In → Option (Int × Int × Bool) := fun x => f K x.1.1.1 x.1.1.2 x.1.2.1 x.1.2.2
noncomputable def cv : sig.In → (Int × Int × Bool) → sig.Ou := fun x r => (((r.1, r.2.1), r.2.2), ())
theorem rets (K : Nat) : ∀ x y, withCv (F K) cv x = some y → Rets M 209 sig x y := runF_retsS (C := (C K)) (LP := noLoops) (RF := noRefit) (CP := noCuts) callsE_ok mxd noRefit_ok noCuts_ok (noL (by kernel_rfl)) (lb rfl) Tryz.func209 (by kernel_rfl) fun x => by
  rw [withCv_def]
  unfold F f
  try simp only [el]
  kernel_rfl
noncomputable def e (K : Nat) : En M := ⟨209, sig, _, F K, cv, by rfl, Tryz.f209, Tryz.func209, by kernel_rfl, rfl, rets K⟩
end span_Meet
namespace span_Span_parts
noncomputable def sig : Sig := ⟨(.agg (.cons (.ty yI) (.ty yI))), [], (.ty (.slice ySpan)), []⟩
noncomputable def C {α : Type} (K : Nat) : CallsBy α := callsE (M := M) [span_Meet.e K]
noncomputable def f (K : Nat) (a0 : Int) (a1 : Int) : Option (List LSpan) := (span_Meet.f K a0 a1 (-9223372036854775808 : Int) (-1 : Int)).bind fun t => bif t.2.2 then (span_Meet.f K a0 a1 (1 : Int) (9223372036854775807 : Int)).bind fun t_1 => bif t_1.2.2 then some ([] ++ [(t.1, t.2.1)] ++ [(t_1.1, t_1.2.1)]) else some ([] ++ [(t.1, t.2.1)]) else (span_Meet.f K a0 a1 (1 : Int) (9223372036854775807 : Int)).bind fun t => bif t.2.2 then some ([] ++ [(t.1, t.2.1)]) else some []
noncomputable def F (K : Nat) : sig.In → Option (List LSpan) := fun x => f K x.1.1 x.1.2
noncomputable def cv : sig.In → (List LSpan) → sig.Ou := fun x r => (r, ())
theorem rets (K : Nat) : ∀ x y, withCv (F K) cv x = some y → Rets M 217 sig x y := runF_retsS (C := (C K)) (LP := noLoops) (RF := noRefit) (CP := noCuts) callsE_ok mxd noRefit_ok noCuts_ok (noL (by kernel_rfl)) (lb rfl) Tryz.func217 (by kernel_rfl) fun x => by
  rw [withCv_def]
  unfold F f
  try simp only [el]
  kernel_rfl
noncomputable def e (K : Nat) : En M := ⟨217, sig, _, F K, cv, by rfl, Tryz.f217, Tryz.func217, by kernel_rfl, rfl, rets K⟩
end span_Span_parts
namespace span_Has
noncomputable def sig : Sig := ⟨(.cons (.agg (.cons (.ty yI) (.ty yI))) (.ty yI)), [], (.ty .bool), []⟩
noncomputable def C {α : Type} (K : Nat) : CallsBy α := callsE (M := M) []
noncomputable def CP {α : Type} (K : Nat) : CutBy α := (cpPut 1 (rpCut M bindC [.bool] [4] (C K) (eqBy M.P)) noCuts)
theorem CP_ok {α : Type} (K : Nat) : CutsOk (α := α) M 0 (CP K) := (cpPut_ok (rpCut_ok callsE_ok (eqBy_ok _) mxd) noCuts_ok)
noncomputable def f (K : Nat) (a0 : Int) (a1 : Int) (a2 : Int) : Option (Bool) := bindC (bif decide (a0 ≤ a2) then some (decide (a2 ≤ a1)) else some false) fun t => some t
noncomputable def F (K : Nat) : sig.In → Option (Bool) := fun x => f K x.1.1.1 x.1.1.2 x.1.2
noncomputable def cv : sig.In → Bool → sig.Ou := fun x r => (r, ())
theorem rets (K : Nat) : ∀ x y, withCv (F K) cv x = some y → Rets M 128 sig x y := runF_retsS (C := (C K)) (LP := noLoops) (RF := noRefit) (CP := (CP K)) callsE_ok mxd noRefit_ok (CP_ok K) (noL (by kernel_rfl)) (lb rfl) Tryz.func128 (by kernel_rfl) fun x => by
  rw [withCv_def]
  unfold F f
  try simp only [el]
  kernel_rfl
noncomputable def e (K : Nat) : En M := ⟨128, sig, _, F K, cv, by rfl, Tryz.f128, Tryz.func128, by kernel_rfl, rfl, rets K⟩
end span_Has
namespace span_ends_all
noncomputable def sig : Sig := ⟨(.ptr 0 0), [.cells 301 0 (.cons (.ty yI) (.cons (.ty yI) (.cons (.ty .bool) (.ty .bool))))], (.cons (.agg (.cons (.ty yI) (.ty yI))) (.ty .bool)), [.cells 301 0 (.cons (.ty yI) (.cons (.ty yI) (.cons (.ty .bool) (.ty .bool))))]⟩
noncomputable def C {α : Type} (K : Nat) : CallsBy α := callsE (M := M) [span_Any.e K]
noncomputable def f (K : Nat) (a0 : Int) (a1 : Int) (a2 : Bool) (a3 : Bool) : Option (Int × Int × Bool) := bif a3 then (span_Any.f K).bind fun t => some (t.1, t.2, true) else some (a0, a1, a2)
noncomputable def F (K : Nat) : sig.In → Option (Int × Int × Bool) := fun (x : (Unit × ((Int × (Int × (Bool × Bool))) × Unit))) => f K x.2.1.1 x.2.1.2.1 x.2.1.2.2.1 x.2.1.2.2.2
noncomputable def cv : sig.In → (Int × Int × Bool) → sig.Ou := fun x r => (((r.1, r.2.1), r.2.2), ((x.2.1.1, (x.2.1.2.1, (x.2.1.2.2.1, x.2.1.2.2.2))), ()))
theorem rets (K : Nat) : ∀ x y, withCv (F K) cv x = some y → Rets M 211 sig x y := runF_retsS (C := (C K)) (LP := noLoops) (RF := noRefit) (CP := noCuts) callsE_ok mxd noRefit_ok noCuts_ok (noL (by kernel_rfl)) (lb rfl) Tryz.func211 (by kernel_rfl) fun (x : (Unit × ((Int × (Int × (Bool × Bool))) × Unit))) => by
  refine Eq.trans ?_ withCv_def.symm
  unfold F f
  try simp only [el]
  kernel_rfl
noncomputable def e (K : Nat) : En M := ⟨211, sig, _, F K, cv, by rfl, Tryz.f211, Tryz.func211, by kernel_rfl, rfl, rets K⟩
end span_ends_all
namespace span_quotients
noncomputable def sig : Sig := ⟨(.cons (.agg (.cons (.ty yI) (.ty yI))) (.agg (.cons (.ty yI) (.ty yI)))), [], (.cons (.agg (.cons (.ty yI) (.ty yI))) (.ty .bool)), []⟩
noncomputable def C {α : Type} (K : Nat) : CallsBy α := callsE (M := M) [span_Span_parts.e K, span_Has.e K, span_Any.e K, span_ends_put.e K, span_ends_all.e K]
noncomputable def CP {α : Type} (K : Nat) : CutBy α := (cpPut 2 (rpCut M bindC [.bool] [25] (C K) (eqBy M.P)) noCuts)
theorem CP_ok {α : Type} (K : Nat) : CutsOk (α := α) M 0 (CP K) := (cpPut_ok (rpCut_ok callsE_ok (eqBy_ok _) mxd) noCuts_ok)
noncomputable def l1.h : SSh := ⟨[2, 4, 7, 27, 28, 29, 37, 38, 39], (.cons (.ptr 0 0) (.cons (.ptr 1 0) (.cons (.ptr 2 0) (.cons (.ty (.slice ySpan)) (.cons (.ty yI) (.cons (.ty yI) (.cons (.own 3) (.cons (.ty yI) (.ty yI))))))))), [.cells 66 0 (.cons (.ty yI) (.ty yI)), .cells 66 0 (.cons (.ty yI) (.ty yI)), .cells 301 0 (.cons (.ty yI) (.cons (.ty yI) (.cons (.ty .bool) (.ty .bool)))), .list 2 yI []]⟩
noncomputable def l1.x : SSh := ⟨[2, 4, 7, 27, 28, 29], (.cons (.ptr 0 0) (.cons (.ptr 1 0) (.cons (.ptr 2 0) (.cons (.ty (.slice ySpan)) (.cons (.ty yI) (.ty yI)))))), [.cells 66 0 (.cons (.ty yI) (.ty yI)), .cells 66 0 (.cons (.ty yI) (.ty yI)), .cells 301 0 (.cons (.ty yI) (.cons (.ty yI) (.cons (.ty .bool) (.ty .bool))))]⟩
noncomputable def l1.cx : l1.h.I → (Int × Int × Bool × Bool) → l1.x.I := fun x r => (((), ((), ((), (x.1.2.2.2.1, (x.1.2.2.2.2.1, x.1.2.2.2.2.2.1))))), ((x.2.1.1, x.2.1.2), ((x.2.2.1.1, x.2.2.1.2), ((r.1, (r.2.1, (r.2.2.1, r.2.2.2))), ()))))
noncomputable def l1.f (K : Nat) : Nat → Int → Int → Int → Int → Int → Int → Bool → Bool → List Int → Option (Int × Int × Bool × Bool)
  | 0, _, _, _, _, _, _, _, _, _ => none
  | k + 1, a3, a4, a5, a6, a9, a10, a11, a12, a13 => bif decide (a4 < a3) then bif decide ((0 : Int) ≤ a4) then bif a4.toNat.blt a13.length then a13[a4.toNat]?.bind fun t => bif t == (0 : Int) then none else (span_ends_put.f K (IntKind.i64.wrap (a5.tdiv t)) true a9 a10 a11 a12).bind fun t_1 => bif t == (0 : Int) then none else (span_ends_put.f K (IntKind.i64.wrap (a6.tdiv t)) true t_1.1 t_1.2.1 t_1.2.2.1 t_1.2.2.2).bind fun t => l1.f K k a3 (IntKind.i64.wrap (a4 + (1 : Int))) a5 a6 t.1 t.2.1 t.2.2.1 t.2.2.2 a13 else none else none else some (a9, a10, a11, a12)
noncomputable def l1.F (K : Nat) (k : Nat) : l1.h.I → Option (Int × Int × Bool × Bool) := fun (x : ((Unit × (Unit × (Unit × ((List LSpan) × (Int × (Int × (Unit × (Int × Int)))))))) × ((Int × Int) × ((Int × Int) × ((Int × (Int × (Bool × Bool))) × ((List Int) × Unit)))))) => l1.f K k x.1.2.2.2.2.2.2.2.1 x.1.2.2.2.2.2.2.2.2 x.2.1.1 x.2.1.2 x.2.2.2.1.1 x.2.2.2.1.2.1 x.2.2.2.1.2.2.1 x.2.2.2.1.2.2.2 x.2.2.2.2.1
noncomputable def l1.lp {α : Type} (K : Nat) : St → Kn α → Option α := lpX 0 58 2 l1.h l1.x (l1.F K K) l1.cx
theorem l1.ok {α : Type} (K : Nat) : LoopOk (α := α) M 0 (nthLoop Tryz.f204 1) (l1.lp K) := lpX_okS (C := (C K)) (LP := noLoops) (RF := noRefit) (CP := (CP K)) (L := 20) callsE_ok mxd noRefit_ok (CP_ok K) (noL (by kernel_rfl)) (lb rfl) (lb rfl) (fun x => rfl) fun k (x : ((Unit × (Unit × (Unit × ((List LSpan) × (Int × (Int × (Unit × (Int × Int)))))))) × ((Int × Int) × ((Int × Int) × ((Int × (Int × (Bool × Bool))) × ((List Int) × Unit)))))) => by
  refine Eq.trans ?_ withCv_def.symm
  unfold l1.F
  rw [l1.f]
  try simp only [el]
  kernel_rfl
noncomputable def l0.h : SSh := ⟨[2, 4, 7, 27, 28, 29], (.cons (.ptr 0 0) (.cons (.ptr 1 0) (.cons (.ptr 2 0) (.cons (.ty (.slice ySpan)) (.cons (.ty yI) (.ty yI)))))), [.cells 66 0 (.cons (.ty yI) (.ty yI)), .cells 66 0 (.cons (.ty yI) (.ty yI)), .cells 301 0 (.cons (.ty yI) (.cons (.ty yI) (.cons (.ty .bool) (.ty .bool))))]⟩
noncomputable def l0.x : SSh := ⟨[4, 7], (.cons (.ptr 0 0) (.ptr 1 0)), [.cells 66 0 (.cons (.ty yI) (.ty yI)), .cells 301 0 (.cons (.ty yI) (.cons (.ty yI) (.cons (.ty .bool) (.ty .bool))))]⟩
noncomputable def l0.cx : l0.h.I → (Int × Int × Bool × Bool) → l0.x.I := fun x r => (((), ()), ((x.2.2.1.1, x.2.2.1.2), ((r.1, (r.2.1, (r.2.2.1, r.2.2.2))), ())))
noncomputable def l0.f (K : Nat) : Nat → List LSpan → Int → Int → Int → Int → Int → Int → Int → Int → Bool → Bool → Option (Int × Int × Bool × Bool)
  | 0, _, _, _, _, _, _, _, _, _, _, _ => none
  | k + 1, a0, a1, a2, a3, a4, a5, a6, a7, a8, a9, a10 => bif decide (a2 < a1) then bif decide ((0 : Int) ≤ a2) && true then a0[a2.toNat]?.bind fun t => (l1.f K K (↑(((Out.mk (V.lf (Value.int IntKind.i64 t.1)) [] [(((((l0.h.enc (58 : Nat) (((), (), (), a0, a1, a2), (a3, a4), (a5, a6), (a7, a8, a9, a10), ())).put (Oper.mk (some (30 : Nat)) (Op.binOp BinOp.lss (3 : Nat) (Operand.tmp (29 : Nat)) (Operand.tmp (28 : Nat)) (3 : Nat)) (0 : Nat) "span.go:125" #[] none) (Out.mk (V.lf (Value.bool (decide (a2 < a1)))) [] [])).know (30 : Nat) (V.lf (Value.bool true))).put (Oper.mk (some (31 : Nat)) (Op.indexAddr (316 : Nat) (Operand.tmp (27 : Nat)) (Operand.tmp (29 : Nat))) (0 : Nat) "span.go:125" #[] none) (Out.mk (V.pin ySpan (some t)) [] [])).put (Oper.mk (some (32 : Nat)) (Op.load (66 : Nat) (Operand.tmp (31 : Nat))) (66 : Nat) "span.go:125" #[Edge.mk (0 : Nat) Ground.data] none) (Out.mk (V.agg (List.take (2 : Nat) (List.drop (0 : Nat) (Ty.cells [] ySpan t)))) [] [])).heap.length]).v.cells ++ ((Out.mk (V.lf (Value.int IntKind.i64 t.2)) [] [(((((l0.h.enc (58 : Nat) (((), (), (), a0, a1, a2), (a3, a4), (a5, a6), (a7, a8, a9, a10), ())).put (Oper.mk (some (30 : Nat)) (Op.binOp BinOp.lss (3 : Nat) (Operand.tmp (29 : Nat)) (Operand.tmp (28 : Nat)) (3 : Nat)) (0 : Nat) "span.go:125" #[] none) (Out.mk (V.lf (Value.bool (decide (a2 < a1)))) [] [])).know (30 : Nat) (V.lf (Value.bool true))).put (Oper.mk (some (31 : Nat)) (Op.indexAddr (316 : Nat) (Operand.tmp (27 : Nat)) (Operand.tmp (29 : Nat))) (0 : Nat) "span.go:125" #[] none) (Out.mk (V.pin ySpan (some t)) [] [])).put (Oper.mk (some (32 : Nat)) (Op.load (66 : Nat) (Operand.tmp (31 : Nat))) (66 : Nat) "span.go:125" #[Edge.mk (0 : Nat) Ground.data] none) (Out.mk (V.agg (List.take (2 : Nat) (List.drop (0 : Nat) (Ty.cells [] ySpan t)))) [] [])).heap.length]).v.cells ++ [])).length / (1 : Nat)) : Int) (0 : Int) a3 a4 a7 a8 a9 a10 [t.1, t.2]).bind fun t => l0.f K k a0 a1 (IntKind.i64.wrap (a2 + (1 : Int))) a3 a4 a5 a6 t.1 t.2.1 t.2.2.1 t.2.2.2 else none else some (a7, a8, a9, a10)
noncomputable def l0.F (K : Nat) (k : Nat) : l0.h.I → Option (Int × Int × Bool × Bool) := fun (x : ((Unit × (Unit × (Unit × ((List LSpan) × (Int × Int))))) × ((Int × Int) × ((Int × Int) × ((Int × (Int × (Bool × Bool))) × Unit))))) => l0.f K k x.1.2.2.2.1 x.1.2.2.2.2.1 x.1.2.2.2.2.2 x.2.1.1 x.2.1.2 x.2.2.1.1 x.2.2.1.2 x.2.2.2.1.1 x.2.2.2.1.2.1 x.2.2.2.1.2.2.1 x.2.2.2.1.2.2.2
noncomputable def l0.lp {α : Type} (K : Nat) : St → Kn α → Option α := lpX 0 58 0 l0.h l0.x (l0.F K K) l0.cx
theorem l0.ok {α : Type} (K : Nat) : LoopOk (α := α) M 0 (nthLoop Tryz.f204 0) (l0.lp K) := lpX_okS (C := (C K)) (LP := (lpPut 9 (l1.lp K) noLoops)) (RF := noRefit) (CP := (CP K)) (L := 20) callsE_ok mxd noRefit_ok (CP_ok K) (show LoopsOk M 0 (lpPut 9 (l1.lp K) noLoops) (loopsOf (nthLoop Tryz.f204 0)) from (show loopsOf (nthLoop Tryz.f204 0) = [nthLoop Tryz.f204 1] by kernel_rfl) ▸ (loopsOk_put (key := 9) (by kernel_rfl) (l1.ok K) noLoops_ok (by kernel_rfl))) (lb rfl) (lb rfl) (fun x => rfl) fun k (x : ((Unit × (Unit × (Unit × ((List LSpan) × (Int × Int))))) × ((Int × Int) × ((Int × Int) × ((Int × (Int × (Bool × Bool))) × Unit))))) => by
  refine Eq.trans ?_ withCv_def.symm
  unfold l0.F
  rw [l0.f]
  try simp only [el]
  kernel_rfl
noncomputable def f (K : Nat) (a0 : Int) (a1 : Int) (a2 : Int) (a3 : Int) : Option (Int × Int × Bool) := (span_Span_parts.f K a2 a3).bind fun t => bindC (bif decide ((↑t.length : Int) > (0 : Int)) then bif a0 == (-9223372036854775808 : Int) then (span_Has.f K a2 a3 (-1 : Int)).bind fun t => some t else some false else some false) fun t_1 => bif t_1 then (span_Any.f K).bind fun t => some (t.1, t.2, true) else (l0.f K K t (↑t.length : Int) (0 : Int) a0 a1 (0 : Int) (0 : Int) (0 : Int) (0 : Int) false false).bind fun t => span_ends_all.f K t.1 t.2.1 t.2.2.1 t.2.2.2
noncomputable def F (K : Nat) : sig.In → Option (Int × Int × Bool) := fun x => f K x.1.1.1 x.1.1.2 x.1.2.1 x.1.2.2
noncomputable def cv : sig.In → (Int × Int × Bool) → sig.Ou := fun x r => (((r.1, r.2.1), r.2.2), ())
theorem rets (K : Nat) : ∀ x y, withCv (F K) cv x = some y → Rets M 204 sig x y := runF_retsS (C := (C K)) (LP := (lpPut 6 (l0.lp K) (lpPut 9 (l1.lp K) noLoops))) (RF := noRefit) (CP := (CP K)) callsE_ok mxd noRefit_ok (CP_ok K) (show LoopsOk M 0 (lpPut 6 (l0.lp K) (lpPut 9 (l1.lp K) noLoops)) (loopsOf (bodyOf Tryz.f204)) from (show loopsOf (bodyOf Tryz.f204) = [nthLoop Tryz.f204 0, nthLoop Tryz.f204 1] by kernel_rfl) ▸ (loopsOk_put (key := 6) (by kernel_rfl) (l0.ok K) (loopsOk_put (key := 9) (by kernel_rfl) (l1.ok K) noLoops_ok (by kernel_rfl)) (by kernel_rfl))) (lb rfl) Tryz.func204 (by kernel_rfl) fun x => by
  rw [withCv_def]
  unfold F f
  try simp only [el]
  kernel_rfl
noncomputable def e (K : Nat) : En M := ⟨204, sig, _, F K, cv, by rfl, Tryz.f204, Tryz.func204, by kernel_rfl, rfl, rets K⟩
end span_quotients
namespace span_rests
noncomputable def sig : Sig := ⟨(.cons (.agg (.cons (.ty yI) (.ty yI))) (.agg (.cons (.ty yI) (.ty yI)))), [], (.cons (.agg (.cons (.ty yI) (.ty yI))) (.ty .bool)), []⟩
noncomputable def C {α : Type} (K : Nat) : CallsBy α := callsE (M := M) [span_Of.e K]
noncomputable def f (K : Nat) (a0 : Int) (a1 : Int) (a2 : Int) (a3 : Int) : Option (Int × Int × Bool) := (span_Of.f K).bind fun t => bif bif false then !(a2 == (0 : Int) && a3 == (0 : Int)) else a2 == (0 : Int) && a3 == (0 : Int) then some ((0 : Int), (0 : Int), false) else bif a3 == (-9223372036854775808 : Int) then bif decide (a2 < (0 : Int)) then some (if (if IntKind.i64.wrap ((0 : Int) - if IntKind.i64.wrap (↑(BitVec.ofInt (64 : Nat) (if true = true then (-1 : Int) else IntKind.i64.max) ^^^ BitVec.ofInt (64 : Nat) a2).toNat : Int) > (0 : Int) then IntKind.i64.wrap (↑(BitVec.ofInt (64 : Nat) (if true = true then (-1 : Int) else IntKind.i64.max) ^^^ BitVec.ofInt (64 : Nat) a2).toNat : Int) else (0 : Int)) > a0 then IntKind.i64.wrap ((0 : Int) - if IntKind.i64.wrap (↑(BitVec.ofInt (64 : Nat) (if true = true then (-1 : Int) else IntKind.i64.max) ^^^ BitVec.ofInt (64 : Nat) a2).toNat : Int) > (0 : Int) then IntKind.i64.wrap (↑(BitVec.ofInt (64 : Nat) (if true = true then (-1 : Int) else IntKind.i64.max) ^^^ BitVec.ofInt (64 : Nat) a2).toNat : Int) else (0 : Int)) else a0) < (0 : Int) then if IntKind.i64.wrap ((0 : Int) - if IntKind.i64.wrap (↑(BitVec.ofInt (64 : Nat) (if true = true then (-1 : Int) else IntKind.i64.max) ^^^ BitVec.ofInt (64 : Nat) a2).toNat : Int) > (0 : Int) then IntKind.i64.wrap (↑(BitVec.ofInt (64 : Nat) (if true = true then (-1 : Int) else IntKind.i64.max) ^^^ BitVec.ofInt (64 : Nat) a2).toNat : Int) else (0 : Int)) > a0 then IntKind.i64.wrap ((0 : Int) - if IntKind.i64.wrap (↑(BitVec.ofInt (64 : Nat) (if true = true then (-1 : Int) else IntKind.i64.max) ^^^ BitVec.ofInt (64 : Nat) a2).toNat : Int) > (0 : Int) then IntKind.i64.wrap (↑(BitVec.ofInt (64 : Nat) (if true = true then (-1 : Int) else IntKind.i64.max) ^^^ BitVec.ofInt (64 : Nat) a2).toNat : Int) else (0 : Int)) else a0 else (0 : Int), if (if (if IntKind.i64.wrap (↑(BitVec.ofInt (64 : Nat) (if true = true then (-1 : Int) else IntKind.i64.max) ^^^ BitVec.ofInt (64 : Nat) a2).toNat : Int) > (0 : Int) then IntKind.i64.wrap (↑(BitVec.ofInt (64 : Nat) (if true = true then (-1 : Int) else IntKind.i64.max) ^^^ BitVec.ofInt (64 : Nat) a2).toNat : Int) else (0 : Int)) < a1 then if IntKind.i64.wrap (↑(BitVec.ofInt (64 : Nat) (if true = true then (-1 : Int) else IntKind.i64.max) ^^^ BitVec.ofInt (64 : Nat) a2).toNat : Int) > (0 : Int) then IntKind.i64.wrap (↑(BitVec.ofInt (64 : Nat) (if true = true then (-1 : Int) else IntKind.i64.max) ^^^ BitVec.ofInt (64 : Nat) a2).toNat : Int) else (0 : Int) else a1) > (0 : Int) then if (if IntKind.i64.wrap (↑(BitVec.ofInt (64 : Nat) (if true = true then (-1 : Int) else IntKind.i64.max) ^^^ BitVec.ofInt (64 : Nat) a2).toNat : Int) > (0 : Int) then IntKind.i64.wrap (↑(BitVec.ofInt (64 : Nat) (if true = true then (-1 : Int) else IntKind.i64.max) ^^^ BitVec.ofInt (64 : Nat) a2).toNat : Int) else (0 : Int)) < a1 then if IntKind.i64.wrap (↑(BitVec.ofInt (64 : Nat) (if true = true then (-1 : Int) else IntKind.i64.max) ^^^ BitVec.ofInt (64 : Nat) a2).toNat : Int) > (0 : Int) then IntKind.i64.wrap (↑(BitVec.ofInt (64 : Nat) (if true = true then (-1 : Int) else IntKind.i64.max) ^^^ BitVec.ofInt (64 : Nat) a2).toNat : Int) else (0 : Int) else a1 else (0 : Int), true) else some (if (if IntKind.i64.wrap ((0 : Int) - (0 : Int)) > a0 then IntKind.i64.wrap ((0 : Int) - (0 : Int)) else a0) < (0 : Int) then if IntKind.i64.wrap ((0 : Int) - (0 : Int)) > a0 then IntKind.i64.wrap ((0 : Int) - (0 : Int)) else a0 else (0 : Int), if (if (0 : Int) < a1 then (0 : Int) else a1) > (0 : Int) then if (0 : Int) < a1 then (0 : Int) else a1 else (0 : Int), true) else bif decide (a2 < (0 : Int)) then some (if (if IntKind.i64.wrap ((0 : Int) - if IntKind.i64.wrap (↑(BitVec.ofInt (64 : Nat) (if true = true then (-1 : Int) else IntKind.i64.max) ^^^ BitVec.ofInt (64 : Nat) a2).toNat : Int) > if IntKind.i64.wrap (a3 - (1 : Int)) > (0 : Int) then IntKind.i64.wrap (a3 - (1 : Int)) else (0 : Int) then IntKind.i64.wrap (↑(BitVec.ofInt (64 : Nat) (if true = true then (-1 : Int) else IntKind.i64.max) ^^^ BitVec.ofInt (64 : Nat) a2).toNat : Int) else if IntKind.i64.wrap (a3 - (1 : Int)) > (0 : Int) then IntKind.i64.wrap (a3 - (1 : Int)) else (0 : Int)) > a0 then IntKind.i64.wrap ((0 : Int) - if IntKind.i64.wrap (↑(BitVec.ofInt (64 : Nat) (if true = true then (-1 : Int) else IntKind.i64.max) ^^^ BitVec.ofInt (64 : Nat) a2).toNat : Int) > if IntKind.i64.wrap (a3 - (1 : Int)) > (0 : Int) then IntKind.i64.wrap (a3 - (1 : Int)) else (0 : Int) then IntKind.i64.wrap (↑(BitVec.ofInt (64 : Nat) (if true = true then (-1 : Int) else IntKind.i64.max) ^^^ BitVec.ofInt (64 : Nat) a2).toNat : Int) else if IntKind.i64.wrap (a3 - (1 : Int)) > (0 : Int) then IntKind.i64.wrap (a3 - (1 : Int)) else (0 : Int)) else a0) < (0 : Int) then if IntKind.i64.wrap ((0 : Int) - if IntKind.i64.wrap (↑(BitVec.ofInt (64 : Nat) (if true = true then (-1 : Int) else IntKind.i64.max) ^^^ BitVec.ofInt (64 : Nat) a2).toNat : Int) > if IntKind.i64.wrap (a3 - (1 : Int)) > (0 : Int) then IntKind.i64.wrap (a3 - (1 : Int)) else (0 : Int) then IntKind.i64.wrap (↑(BitVec.ofInt (64 : Nat) (if true = true then (-1 : Int) else IntKind.i64.max) ^^^ BitVec.ofInt (64 : Nat) a2).toNat : Int) else if IntKind.i64.wrap (a3 - (1 : Int)) > (0 : Int) then IntKind.i64.wrap (a3 - (1 : Int)) else (0 : Int)) > a0 then IntKind.i64.wrap ((0 : Int) - if IntKind.i64.wrap (↑(BitVec.ofInt (64 : Nat) (if true = true then (-1 : Int) else IntKind.i64.max) ^^^ BitVec.ofInt (64 : Nat) a2).toNat : Int) > if IntKind.i64.wrap (a3 - (1 : Int)) > (0 : Int) then IntKind.i64.wrap (a3 - (1 : Int)) else (0 : Int) then IntKind.i64.wrap (↑(BitVec.ofInt (64 : Nat) (if true = true then (-1 : Int) else IntKind.i64.max) ^^^ BitVec.ofInt (64 : Nat) a2).toNat : Int) else if IntKind.i64.wrap (a3 - (1 : Int)) > (0 : Int) then IntKind.i64.wrap (a3 - (1 : Int)) else (0 : Int)) else a0 else (0 : Int), if (if (if IntKind.i64.wrap (↑(BitVec.ofInt (64 : Nat) (if true = true then (-1 : Int) else IntKind.i64.max) ^^^ BitVec.ofInt (64 : Nat) a2).toNat : Int) > if IntKind.i64.wrap (a3 - (1 : Int)) > (0 : Int) then IntKind.i64.wrap (a3 - (1 : Int)) else (0 : Int) then IntKind.i64.wrap (↑(BitVec.ofInt (64 : Nat) (if true = true then (-1 : Int) else IntKind.i64.max) ^^^ BitVec.ofInt (64 : Nat) a2).toNat : Int) else if IntKind.i64.wrap (a3 - (1 : Int)) > (0 : Int) then IntKind.i64.wrap (a3 - (1 : Int)) else (0 : Int)) < a1 then if IntKind.i64.wrap (↑(BitVec.ofInt (64 : Nat) (if true = true then (-1 : Int) else IntKind.i64.max) ^^^ BitVec.ofInt (64 : Nat) a2).toNat : Int) > if IntKind.i64.wrap (a3 - (1 : Int)) > (0 : Int) then IntKind.i64.wrap (a3 - (1 : Int)) else (0 : Int) then IntKind.i64.wrap (↑(BitVec.ofInt (64 : Nat) (if true = true then (-1 : Int) else IntKind.i64.max) ^^^ BitVec.ofInt (64 : Nat) a2).toNat : Int) else if IntKind.i64.wrap (a3 - (1 : Int)) > (0 : Int) then IntKind.i64.wrap (a3 - (1 : Int)) else (0 : Int) else a1) > (0 : Int) then if (if IntKind.i64.wrap (↑(BitVec.ofInt (64 : Nat) (if true = true then (-1 : Int) else IntKind.i64.max) ^^^ BitVec.ofInt (64 : Nat) a2).toNat : Int) > if IntKind.i64.wrap (a3 - (1 : Int)) > (0 : Int) then IntKind.i64.wrap (a3 - (1 : Int)) else (0 : Int) then IntKind.i64.wrap (↑(BitVec.ofInt (64 : Nat) (if true = true then (-1 : Int) else IntKind.i64.max) ^^^ BitVec.ofInt (64 : Nat) a2).toNat : Int) else if IntKind.i64.wrap (a3 - (1 : Int)) > (0 : Int) then IntKind.i64.wrap (a3 - (1 : Int)) else (0 : Int)) < a1 then if IntKind.i64.wrap (↑(BitVec.ofInt (64 : Nat) (if true = true then (-1 : Int) else IntKind.i64.max) ^^^ BitVec.ofInt (64 : Nat) a2).toNat : Int) > if IntKind.i64.wrap (a3 - (1 : Int)) > (0 : Int) then IntKind.i64.wrap (a3 - (1 : Int)) else (0 : Int) then IntKind.i64.wrap (↑(BitVec.ofInt (64 : Nat) (if true = true then (-1 : Int) else IntKind.i64.max) ^^^ BitVec.ofInt (64 : Nat) a2).toNat : Int) else if IntKind.i64.wrap (a3 - (1 : Int)) > (0 : Int) then IntKind.i64.wrap (a3 - (1 : Int)) else (0 : Int) else a1 else (0 : Int), true) else some (if (if IntKind.i64.wrap ((0 : Int) - if IntKind.i64.wrap (a3 - (1 : Int)) > (0 : Int) then IntKind.i64.wrap (a3 - (1 : Int)) else (0 : Int)) > a0 then IntKind.i64.wrap ((0 : Int) - if IntKind.i64.wrap (a3 - (1 : Int)) > (0 : Int) then IntKind.i64.wrap (a3 - (1 : Int)) else (0 : Int)) else a0) < (0 : Int) then if IntKind.i64.wrap ((0 : Int) - if IntKind.i64.wrap (a3 - (1 : Int)) > (0 : Int) then IntKind.i64.wrap (a3 - (1 : Int)) else (0 : Int)) > a0 then IntKind.i64.wrap ((0 : Int) - if IntKind.i64.wrap (a3 - (1 : Int)) > (0 : Int) then IntKind.i64.wrap (a3 - (1 : Int)) else (0 : Int)) else a0 else (0 : Int), if (if (if IntKind.i64.wrap (a3 - (1 : Int)) > (0 : Int) then IntKind.i64.wrap (a3 - (1 : Int)) else (0 : Int)) < a1 then if IntKind.i64.wrap (a3 - (1 : Int)) > (0 : Int) then IntKind.i64.wrap (a3 - (1 : Int)) else (0 : Int) else a1) > (0 : Int) then if (if IntKind.i64.wrap (a3 - (1 : Int)) > (0 : Int) then IntKind.i64.wrap (a3 - (1 : Int)) else (0 : Int)) < a1 then if IntKind.i64.wrap (a3 - (1 : Int)) > (0 : Int) then IntKind.i64.wrap (a3 - (1 : Int)) else (0 : Int) else a1 else (0 : Int), true)
noncomputable def F (K : Nat) : sig.In → Option (Int × Int × Bool) := fun x => f K x.1.1.1 x.1.1.2 x.1.2.1 x.1.2.2
noncomputable def cv : sig.In → (Int × Int × Bool) → sig.Ou := fun x r => (((r.1, r.2.1), r.2.2), ())
theorem rets (K : Nat) : ∀ x y, withCv (F K) cv x = some y → Rets M 205 sig x y := runF_retsS (C := (C K)) (LP := noLoops) (RF := noRefit) (CP := noCuts) callsE_ok mxd noRefit_ok noCuts_ok (noL (by kernel_rfl)) (lb rfl) Tryz.func205 (by kernel_rfl) fun x => by
  rw [withCv_def]
  unfold F f
  try simp only [el]
  kernel_rfl
noncomputable def e (K : Nat) : En M := ⟨205, sig, _, F K, cv, by rfl, Tryz.f205, Tryz.func205, by kernel_rfl, rfl, rets K⟩
end span_rests
namespace span_Span_above
noncomputable def sig : Sig := ⟨(.agg (.cons (.ty yI) (.ty yI))), [], (.ty .bool), []⟩
noncomputable def C {α : Type} (K : Nat) : CallsBy α := callsE (M := M) []
noncomputable def f (K : Nat) (a0 : Int) : Option (Bool) := some (decide (a0 ≥ (0 : Int)))
noncomputable def F (K : Nat) : sig.In → Option (Bool) := fun x => f K x.1.1
noncomputable def cv : sig.In → Bool → sig.Ou := fun x r => (r, ())
theorem rets (K : Nat) : ∀ x y, withCv (F K) cv x = some y → Rets M 218 sig x y := runF_retsS (C := (C K)) (LP := noLoops) (RF := noRefit) (CP := noCuts) callsE_ok mxd noRefit_ok noCuts_ok (noL (by kernel_rfl)) (lb rfl) Tryz.func218 (by kernel_rfl) fun x => by
  rw [withCv_def]
  unfold F f
  try simp only [el]
  kernel_rfl
noncomputable def e (K : Nat) : En M := ⟨218, sig, _, F K, cv, by rfl, Tryz.f218, Tryz.func218, by kernel_rfl, rfl, rets K⟩
end span_Span_above
namespace span_Span_below
noncomputable def sig : Sig := ⟨(.agg (.cons (.ty yI) (.ty yI))), [], (.ty .bool), []⟩
noncomputable def C {α : Type} (K : Nat) : CallsBy α := callsE (M := M) []
noncomputable def f (K : Nat) (a1 : Int) : Option (Bool) := some (decide (a1 < (0 : Int)))
noncomputable def F (K : Nat) : sig.In → Option (Bool) := fun x => f K x.1.2
noncomputable def cv : sig.In → Bool → sig.Ou := fun x r => (r, ())
theorem rets (K : Nat) : ∀ x y, withCv (F K) cv x = some y → Rets M 219 sig x y := runF_retsS (C := (C K)) (LP := noLoops) (RF := noRefit) (CP := noCuts) callsE_ok mxd noRefit_ok noCuts_ok (noL (by kernel_rfl)) (lb rfl) Tryz.func219 (by kernel_rfl) fun x => by
  rw [withCv_def]
  unfold F f
  try simp only [el]
  kernel_rfl
noncomputable def e (K : Nat) : En M := ⟨219, sig, _, F K, cv, by rfl, Tryz.f219, Tryz.func219, by kernel_rfl, rfl, rets K⟩
end span_Span_below
namespace span_both
noncomputable def sig : Sig := ⟨(.cons (.agg (.cons (.ty yI) (.ty yI))) (.agg (.cons (.ty yI) (.ty yI)))), [], (.agg (.cons (.ty yI) (.ty yI))), []⟩
noncomputable def C {α : Type} (K : Nat) : CallsBy α := callsE (M := M) [span_Span_above.e K, span_Span_below.e K]
noncomputable def CP {α : Type} (K : Nat) : CutBy α := (cpPut 1 (rpCut M bindC [.bool] [5] (C K) (eqBy M.P)) (cpPut 7 (rpCut M bindC [.bool] [30] (C K) (eqBy M.P)) noCuts))
theorem CP_ok {α : Type} (K : Nat) : CutsOk (α := α) M 0 (CP K) := (cpPut_ok (rpCut_ok callsE_ok (eqBy_ok _) mxd) (cpPut_ok (rpCut_ok callsE_ok (eqBy_ok _) mxd) noCuts_ok))
noncomputable def f (K : Nat) (a0 : Int) (a1 : Int) (a2 : Int) (a3 : Int) : Option (Int × Int) := bindC ((span_Span_above.f K a0).bind fun t => bif t then (span_Span_above.f K a2).bind fun t => some t else some false) fun t => bif t then some ((0 : Int), if a3 < a1 then a3 else a1) else (span_Span_above.f K a0).bind fun t => bif t then some ((0 : Int), a1) else (span_Span_above.f K a2).bind fun t => bif t then some ((0 : Int), a3) else bindC ((span_Span_below.f K a1).bind fun t => bif t then (span_Span_below.f K a3).bind fun t => some t else some false) fun t => bif t then some ((-9223372036854775808 : Int), if a3 < a1 then a3 else a1) else some ((-9223372036854775808 : Int), if a3 > a1 then a3 else a1)
noncomputable def F (K : Nat) : sig.In → Option (Int × Int) := fun x => f K x.1.1.1 x.1.1.2 x.1.2.1 x.1.2.2
noncomputable def cv : sig.In → (Int × Int) → sig.Ou := fun x r => ((r.1, r.2), ())
theorem rets (K : Nat) : ∀ x y, withCv (F K) cv x = some y → Rets M 206 sig x y := runF_retsS (C := (C K)) (LP := noLoops) (RF := noRefit) (CP := (CP K)) callsE_ok mxd noRefit_ok (CP_ok K) (noL (by kernel_rfl)) (lb rfl) Tryz.func206 (by kernel_rfl) fun x => by
  rw [withCv_def]
  unfold F f
  try simp only [el]
  kernel_rfl
noncomputable def e (K : Nat) : En M := ⟨206, sig, _, F K, cv, by rfl, Tryz.f206, Tryz.func206, by kernel_rfl, rfl, rets K⟩
end span_both
namespace math_bits_Len64
noncomputable def sig : Sig := ⟨(.ty (.int .u64)), [], (.ty yI), []⟩
noncomputable def C {α : Type} (K : Nat) : CallsBy α := callsE (M := M) []
noncomputable def f (K : Nat) (a0 : Int) : Option (Int) := bif decide (a0 ≥ (4294967296 : Int)) then bif decide (a0.fdiv ((2 : Int) ^ (32 : Nat)) ≥ (65536 : Int)) then bif decide ((a0.fdiv ((2 : Int) ^ (32 : Nat))).fdiv ((2 : Int) ^ (16 : Nat)) ≥ (256 : Int)) then bif decide ((0 : Int) ≤ IntKind.u8.wrap (((a0.fdiv ((2 : Int) ^ (32 : Nat))).fdiv ((2 : Int) ^ (16 : Nat))).fdiv ((2 : Int) ^ (8 : Nat)))) then bif (IntKind.u8.wrap (((a0.fdiv ((2 : Int) ^ (32 : Nat))).fdiv ((2 : Int) ^ (16 : Nat))).fdiv ((2 : Int) ^ (8 : Nat)))).toNat.blt (256 : Nat) then some (IntKind.i64.wrap (IntKind.i64.wrap (IntKind.i64.wrap ((32 : Int) + (16 : Int)) + (8 : Int)) + IntKind.i64.wrap (↑((ByteArray.mk (([(0 : UInt8), (1 : UInt8), (2 : UInt8), (2 : UInt8), (3 : UInt8), (3 : UInt8), (3 : UInt8), (3 : UInt8), (4 : UInt8), (4 : UInt8), (4 : UInt8), (4 : UInt8), (4 : UInt8), (4 : UInt8), (4 : UInt8), (4 : UInt8), (5 : UInt8), (5 : UInt8), (5 : UInt8), (5 : UInt8), (5 : UInt8), (5 : UInt8), (5 : UInt8), (5 : UInt8), (5 : UInt8), (5 : UInt8), (5 : UInt8), (5 : UInt8), (5 : UInt8), (5 : UInt8), (5 : UInt8), (5 : UInt8), (6 : UInt8), (6 : UInt8), (6 : UInt8), (6 : UInt8), (6 : UInt8), (6 : UInt8), (6 : UInt8), (6 : UInt8), (6 : UInt8), (6 : UInt8), (6 : UInt8), (6 : UInt8), (6 : UInt8), (6 : UInt8), (6 : UInt8), (6 : UInt8), (6 : UInt8), (6 : UInt8), (6 : UInt8), (6 : UInt8), (6 : UInt8), (6 : UInt8), (6 : UInt8), (6 : UInt8), (6 : UInt8), (6 : UInt8), (6 : UInt8), (6 : UInt8), (6 : UInt8), (6 : UInt8), (6 : UInt8), (6 : UInt8)].append [(7 : UInt8), (7 : UInt8), (7 : UInt8), (7 : UInt8), (7 : UInt8), (7 : UInt8), (7 : UInt8), (7 : UInt8), (7 : UInt8), (7 : UInt8), (7 : UInt8), (7 : UInt8), (7 : UInt8), (7 : UInt8), (7 : UInt8), (7 : UInt8), (7 : UInt8), (7 : UInt8), (7 : UInt8), (7 : UInt8), (7 : UInt8), (7 : UInt8), (7 : UInt8), (7 : UInt8), (7 : UInt8), (7 : UInt8), (7 : UInt8), (7 : UInt8), (7 : UInt8), (7 : UInt8), (7 : UInt8), (7 : UInt8), (7 : UInt8), (7 : UInt8), (7 : UInt8), (7 : UInt8), (7 : UInt8), (7 : UInt8), (7 : UInt8), (7 : UInt8), (7 : UInt8), (7 : UInt8), (7 : UInt8), (7 : UInt8), (7 : UInt8), (7 : UInt8), (7 : UInt8), (7 : UInt8), (7 : UInt8), (7 : UInt8), (7 : UInt8), (7 : UInt8), (7 : UInt8), (7 : UInt8), (7 : UInt8), (7 : UInt8), (7 : UInt8), (7 : UInt8), (7 : UInt8), (7 : UInt8), (7 : UInt8), (7 : UInt8), (7 : UInt8), (7 : UInt8)]).append ([(8 : UInt8), (8 : UInt8), (8 : UInt8), (8 : UInt8), (8 : UInt8), (8 : UInt8), (8 : UInt8), (8 : UInt8), (8 : UInt8), (8 : UInt8), (8 : UInt8), (8 : UInt8), (8 : UInt8), (8 : UInt8), (8 : UInt8), (8 : UInt8), (8 : UInt8), (8 : UInt8), (8 : UInt8), (8 : UInt8), (8 : UInt8), (8 : UInt8), (8 : UInt8), (8 : UInt8), (8 : UInt8), (8 : UInt8), (8 : UInt8), (8 : UInt8), (8 : UInt8), (8 : UInt8), (8 : UInt8), (8 : UInt8), (8 : UInt8), (8 : UInt8), (8 : UInt8), (8 : UInt8), (8 : UInt8), (8 : UInt8), (8 : UInt8), (8 : UInt8), (8 : UInt8), (8 : UInt8), (8 : UInt8), (8 : UInt8), (8 : UInt8), (8 : UInt8), (8 : UInt8), (8 : UInt8), (8 : UInt8), (8 : UInt8), (8 : UInt8), (8 : UInt8), (8 : UInt8), (8 : UInt8), (8 : UInt8), (8 : UInt8), (8 : UInt8), (8 : UInt8), (8 : UInt8), (8 : UInt8), (8 : UInt8), (8 : UInt8), (8 : UInt8), (8 : UInt8)].append [(8 : UInt8), (8 : UInt8), (8 : UInt8), (8 : UInt8), (8 : UInt8), (8 : UInt8), (8 : UInt8), (8 : UInt8), (8 : UInt8), (8 : UInt8), (8 : UInt8), (8 : UInt8), (8 : UInt8), (8 : UInt8), (8 : UInt8), (8 : UInt8), (8 : UInt8), (8 : UInt8), (8 : UInt8), (8 : UInt8), (8 : UInt8), (8 : UInt8), (8 : UInt8), (8 : UInt8), (8 : UInt8), (8 : UInt8), (8 : UInt8), (8 : UInt8), (8 : UInt8), (8 : UInt8), (8 : UInt8), (8 : UInt8), (8 : UInt8), (8 : UInt8), (8 : UInt8), (8 : UInt8), (8 : UInt8), (8 : UInt8), (8 : UInt8), (8 : UInt8), (8 : UInt8), (8 : UInt8), (8 : UInt8), (8 : UInt8), (8 : UInt8), (8 : UInt8), (8 : UInt8), (8 : UInt8), (8 : UInt8), (8 : UInt8), (8 : UInt8), (8 : UInt8), (8 : UInt8), (8 : UInt8), (8 : UInt8), (8 : UInt8), (8 : UInt8), (8 : UInt8), (8 : UInt8), (8 : UInt8), (8 : UInt8), (8 : UInt8), (8 : UInt8), (8 : UInt8)])).toArray)[(IntKind.u8.wrap (((a0.fdiv ((2 : Int) ^ (32 : Nat))).fdiv ((2 : Int) ^ (16 : Nat))).fdiv ((2 : Int) ^ (8 : Nat)))).toNat]?.getD (0 : UInt8)).toNat : Int))) else none else none else bif decide ((0 : Int) ≤ IntKind.u8.wrap ((a0.fdiv ((2 : Int) ^ (32 : Nat))).fdiv ((2 : Int) ^ (16 : Nat)))) then bif (IntKind.u8.wrap ((a0.fdiv ((2 : Int) ^ (32 : Nat))).fdiv ((2 : Int) ^ (16 : Nat)))).toNat.blt (256 : Nat) then some (IntKind.i64.wrap (IntKind.i64.wrap ((32 : Int) + (16 : Int)) + IntKind.i64.wrap (↑((ByteArray.mk (([(0 : UInt8), (1 : UInt8), (2 : UInt8), (2 : UInt8), (3 : UInt8), (3 : UInt8), (3 : UInt8), (3 : UInt8), (4 : UInt8), (4 : UInt8), (4 : UInt8), (4 : UInt8), (4 : UInt8), (4 : UInt8), (4 : UInt8), (4 : UInt8), (5 : UInt8), (5 : UInt8), (5 : UInt8), (5 : UInt8), (5 : UInt8), (5 : UInt8), (5 : UInt8), (5 : UInt8), (5 : UInt8), (5 : UInt8), (5 : UInt8), (5 : UInt8), (5 : UInt8), (5 : UInt8), (5 : UInt8), (5 : UInt8), (6 : UInt8), (6 : UInt8), (6 : UInt8), (6 : UInt8), (6 : UInt8), (6 : UInt8), (6 : UInt8), (6 : UInt8), (6 : UInt8), (6 : UInt8), (6 : UInt8), (6 : UInt8), (6 : UInt8), (6 : UInt8), (6 : UInt8), (6 : UInt8), (6 : UInt8), (6 : UInt8), (6 : UInt8), (6 : UInt8), (6 : UInt8), (6 : UInt8), (6 : UInt8), (6 : UInt8), (6 : UInt8), (6 : UInt8), (6 : UInt8), (6 : UInt8), (6 : UInt8), (6 : UInt8), (6 : UInt8), (6 : UInt8)].append [(7 : UInt8), (7 : UInt8), (7 : UInt8), (7 : UInt8), (7 : UInt8), (7 : UInt8), (7 : UInt8), (7 : UInt8), (7 : UInt8), (7 : UInt8), (7 : UInt8), (7 : UInt8), (7 : UInt8), (7 : UInt8), (7 : UInt8), (7 : UInt8), (7 : UInt8), (7 : UInt8), (7 : UInt8), (7 : UInt8), (7 : UInt8), (7 : UInt8), (7 : UInt8), (7 : UInt8), (7 : UInt8), (7 : UInt8), (7 : UInt8), (7 : UInt8), (7 : UInt8), (7 : UInt8), (7 : UInt8), (7 : UInt8), (7 : UInt8), (7 : UInt8), (7 : UInt8), (7 : UInt8), (7 : UInt8), (7 : UInt8), (7 : UInt8), (7 : UInt8), (7 : UInt8), (7 : UInt8), (7 : UInt8), (7 : UInt8), (7 : UInt8), (7 : UInt8), (7 : UInt8), (7 : UInt8), (7 : UInt8), (7 : UInt8), (7 : UInt8), (7 : UInt8), (7 : UInt8), (7 : UInt8), (7 : UInt8), (7 : UInt8), (7 : UInt8), (7 : UInt8), (7 : UInt8), (7 : UInt8), (7 : UInt8), (7 : UInt8), (7 : UInt8), (7 : UInt8)]).append ([(8 : UInt8), (8 : UInt8), (8 : UInt8), (8 : UInt8), (8 : UInt8), (8 : UInt8), (8 : UInt8), (8 : UInt8), (8 : UInt8), (8 : UInt8), (8 : UInt8), (8 : UInt8), (8 : UInt8), (8 : UInt8), (8 : UInt8), (8 : UInt8), (8 : UInt8), (8 : UInt8), (8 : UInt8), (8 : UInt8), (8 : UInt8), (8 : UInt8), (8 : UInt8), (8 : UInt8), (8 : UInt8), (8 : UInt8), (8 : UInt8), (8 : UInt8), (8 : UInt8), (8 : UInt8), (8 : UInt8), (8 : UInt8), (8 : UInt8), (8 : UInt8), (8 : UInt8), (8 : UInt8), (8 : UInt8), (8 : UInt8), (8 : UInt8), (8 : UInt8), (8 : UInt8), (8 : UInt8), (8 : UInt8), (8 : UInt8), (8 : UInt8), (8 : UInt8), (8 : UInt8), (8 : UInt8), (8 : UInt8), (8 : UInt8), (8 : UInt8), (8 : UInt8), (8 : UInt8), (8 : UInt8), (8 : UInt8), (8 : UInt8), (8 : UInt8), (8 : UInt8), (8 : UInt8), (8 : UInt8), (8 : UInt8), (8 : UInt8), (8 : UInt8), (8 : UInt8)].append [(8 : UInt8), (8 : UInt8), (8 : UInt8), (8 : UInt8), (8 : UInt8), (8 : UInt8), (8 : UInt8), (8 : UInt8), (8 : UInt8), (8 : UInt8), (8 : UInt8), (8 : UInt8), (8 : UInt8), (8 : UInt8), (8 : UInt8), (8 : UInt8), (8 : UInt8), (8 : UInt8), (8 : UInt8), (8 : UInt8), (8 : UInt8), (8 : UInt8), (8 : UInt8), (8 : UInt8), (8 : UInt8), (8 : UInt8), (8 : UInt8), (8 : UInt8), (8 : UInt8), (8 : UInt8), (8 : UInt8), (8 : UInt8), (8 : UInt8), (8 : UInt8), (8 : UInt8), (8 : UInt8), (8 : UInt8), (8 : UInt8), (8 : UInt8), (8 : UInt8), (8 : UInt8), (8 : UInt8), (8 : UInt8), (8 : UInt8), (8 : UInt8), (8 : UInt8), (8 : UInt8), (8 : UInt8), (8 : UInt8), (8 : UInt8), (8 : UInt8), (8 : UInt8), (8 : UInt8), (8 : UInt8), (8 : UInt8), (8 : UInt8), (8 : UInt8), (8 : UInt8), (8 : UInt8), (8 : UInt8), (8 : UInt8), (8 : UInt8), (8 : UInt8), (8 : UInt8)])).toArray)[(IntKind.u8.wrap ((a0.fdiv ((2 : Int) ^ (32 : Nat))).fdiv ((2 : Int) ^ (16 : Nat)))).toNat]?.getD (0 : UInt8)).toNat : Int))) else none else none else bif decide (a0.fdiv ((2 : Int) ^ (32 : Nat)) ≥ (256 : Int)) then bif decide ((0 : Int) ≤ IntKind.u8.wrap ((a0.fdiv ((2 : Int) ^ (32 : Nat))).fdiv ((2 : Int) ^ (8 : Nat)))) then bif (IntKind.u8.wrap ((a0.fdiv ((2 : Int) ^ (32 : Nat))).fdiv ((2 : Int) ^ (8 : Nat)))).toNat.blt (256 : Nat) then some (IntKind.i64.wrap (IntKind.i64.wrap ((32 : Int) + (8 : Int)) + IntKind.i64.wrap (↑((ByteArray.mk (([(0 : UInt8), (1 : UInt8), (2 : UInt8), (2 : UInt8), (3 : UInt8), (3 : UInt8), (3 : UInt8), (3 : UInt8), (4 : UInt8), (4 : UInt8), (4 : UInt8), (4 : UInt8), (4 : UInt8), (4 : UInt8), (4 : UInt8), (4 : UInt8), (5 : UInt8), (5 : UInt8), (5 : UInt8), (5 : UInt8), (5 : UInt8), (5 : UInt8), (5 : UInt8), (5 : UInt8), (5 : UInt8), (5 : UInt8), (5 : UInt8), (5 : UInt8), (5 : UInt8), (5 : UInt8), (5 : UInt8), (5 : UInt8), (6 : UInt8), (6 : UInt8), (6 : UInt8), (6 : UInt8), (6 : UInt8), (6 : UInt8), (6 : UInt8), (6 : UInt8), (6 : UInt8), (6 : UInt8), (6 : UInt8), (6 : UInt8), (6 : UInt8), (6 : UInt8), (6 : UInt8), (6 : UInt8), (6 : UInt8), (6 : UInt8), (6 : UInt8), (6 : UInt8), (6 : UInt8), (6 : UInt8), (6 : UInt8), (6 : UInt8), (6 : UInt8), (6 : UInt8), (6 : UInt8), (6 : UInt8), (6 : UInt8), (6 : UInt8), (6 : UInt8), (6 : UInt8)].append [(7 : UInt8), (7 : UInt8), (7 : UInt8), (7 : UInt8), (7 : UInt8), (7 : UInt8), (7 : UInt8), (7 : UInt8), (7 : UInt8), (7 : UInt8), (7 : UInt8), (7 : UInt8), (7 : UInt8), (7 : UInt8), (7 : UInt8), (7 : UInt8), (7 : UInt8), (7 : UInt8), (7 : UInt8), (7 : UInt8), (7 : UInt8), (7 : UInt8), (7 : UInt8), (7 : UInt8), (7 : UInt8), (7 : UInt8), (7 : UInt8), (7 : UInt8), (7 : UInt8), (7 : UInt8), (7 : UInt8), (7 : UInt8), (7 : UInt8), (7 : UInt8), (7 : UInt8), (7 : UInt8), (7 : UInt8), (7 : UInt8), (7 : UInt8), (7 : UInt8), (7 : UInt8), (7 : UInt8), (7 : UInt8), (7 : UInt8), (7 : UInt8), (7 : UInt8), (7 : UInt8), (7 : UInt8), (7 : UInt8), (7 : UInt8), (7 : UInt8), (7 : UInt8), (7 : UInt8), (7 : UInt8), (7 : UInt8), (7 : UInt8), (7 : UInt8), (7 : UInt8), (7 : UInt8), (7 : UInt8), (7 : UInt8), (7 : UInt8), (7 : UInt8), (7 : UInt8)]).append ([(8 : UInt8), (8 : UInt8), (8 : UInt8), (8 : UInt8), (8 : UInt8), (8 : UInt8), (8 : UInt8), (8 : UInt8), (8 : UInt8), (8 : UInt8), (8 : UInt8), (8 : UInt8), (8 : UInt8), (8 : UInt8), (8 : UInt8), (8 : UInt8), (8 : UInt8), (8 : UInt8), (8 : UInt8), (8 : UInt8), (8 : UInt8), (8 : UInt8), (8 : UInt8), (8 : UInt8), (8 : UInt8), (8 : UInt8), (8 : UInt8), (8 : UInt8), (8 : UInt8), (8 : UInt8), (8 : UInt8), (8 : UInt8), (8 : UInt8), (8 : UInt8), (8 : UInt8), (8 : UInt8), (8 : UInt8), (8 : UInt8), (8 : UInt8), (8 : UInt8), (8 : UInt8), (8 : UInt8), (8 : UInt8), (8 : UInt8), (8 : UInt8), (8 : UInt8), (8 : UInt8), (8 : UInt8), (8 : UInt8), (8 : UInt8), (8 : UInt8), (8 : UInt8), (8 : UInt8), (8 : UInt8), (8 : UInt8), (8 : UInt8), (8 : UInt8), (8 : UInt8), (8 : UInt8), (8 : UInt8), (8 : UInt8), (8 : UInt8), (8 : UInt8), (8 : UInt8)].append [(8 : UInt8), (8 : UInt8), (8 : UInt8), (8 : UInt8), (8 : UInt8), (8 : UInt8), (8 : UInt8), (8 : UInt8), (8 : UInt8), (8 : UInt8), (8 : UInt8), (8 : UInt8), (8 : UInt8), (8 : UInt8), (8 : UInt8), (8 : UInt8), (8 : UInt8), (8 : UInt8), (8 : UInt8), (8 : UInt8), (8 : UInt8), (8 : UInt8), (8 : UInt8), (8 : UInt8), (8 : UInt8), (8 : UInt8), (8 : UInt8), (8 : UInt8), (8 : UInt8), (8 : UInt8), (8 : UInt8), (8 : UInt8), (8 : UInt8), (8 : UInt8), (8 : UInt8), (8 : UInt8), (8 : UInt8), (8 : UInt8), (8 : UInt8), (8 : UInt8), (8 : UInt8), (8 : UInt8), (8 : UInt8), (8 : UInt8), (8 : UInt8), (8 : UInt8), (8 : UInt8), (8 : UInt8), (8 : UInt8), (8 : UInt8), (8 : UInt8), (8 : UInt8), (8 : UInt8), (8 : UInt8), (8 : UInt8), (8 : UInt8), (8 : UInt8), (8 : UInt8), (8 : UInt8), (8 : UInt8), (8 : UInt8), (8 : UInt8), (8 : UInt8), (8 : UInt8)])).toArray)[(IntKind.u8.wrap ((a0.fdiv ((2 : Int) ^ (32 : Nat))).fdiv ((2 : Int) ^ (8 : Nat)))).toNat]?.getD (0 : UInt8)).toNat : Int))) else none else none else bif decide ((0 : Int) ≤ IntKind.u8.wrap (a0.fdiv ((2 : Int) ^ (32 : Nat)))) then bif (IntKind.u8.wrap (a0.fdiv ((2 : Int) ^ (32 : Nat)))).toNat.blt (256 : Nat) then some (IntKind.i64.wrap ((32 : Int) + IntKind.i64.wrap (↑((ByteArray.mk (([(0 : UInt8), (1 : UInt8), (2 : UInt8), (2 : UInt8), (3 : UInt8), (3 : UInt8), (3 : UInt8), (3 : UInt8), (4 : UInt8), (4 : UInt8), (4 : UInt8), (4 : UInt8), (4 : UInt8), (4 : UInt8), (4 : UInt8), (4 : UInt8), (5 : UInt8), (5 : UInt8), (5 : UInt8), (5 : UInt8), (5 : UInt8), (5 : UInt8), (5 : UInt8), (5 : UInt8), (5 : UInt8), (5 : UInt8), (5 : UInt8), (5 : UInt8), (5 : UInt8), (5 : UInt8), (5 : UInt8), (5 : UInt8), (6 : UInt8), (6 : UInt8), (6 : UInt8), (6 : UInt8), (6 : UInt8), (6 : UInt8), (6 : UInt8), (6 : UInt8), (6 : UInt8), (6 : UInt8), (6 : UInt8), (6 : UInt8), (6 : UInt8), (6 : UInt8), (6 : UInt8), (6 : UInt8), (6 : UInt8), (6 : UInt8), (6 : UInt8), (6 : UInt8), (6 : UInt8), (6 : UInt8), (6 : UInt8), (6 : UInt8), (6 : UInt8), (6 : UInt8), (6 : UInt8), (6 : UInt8), (6 : UInt8), (6 : UInt8), (6 : UInt8), (6 : UInt8)].append [(7 : UInt8), (7 : UInt8), (7 : UInt8), (7 : UInt8), (7 : UInt8), (7 : UInt8), (7 : UInt8), (7 : UInt8), (7 : UInt8), (7 : UInt8), (7 : UInt8), (7 : UInt8), (7 : UInt8), (7 : UInt8), (7 : UInt8), (7 : UInt8), (7 : UInt8), (7 : UInt8), (7 : UInt8), (7 : UInt8), (7 : UInt8), (7 : UInt8), (7 : UInt8), (7 : UInt8), (7 : UInt8), (7 : UInt8), (7 : UInt8), (7 : UInt8), (7 : UInt8), (7 : UInt8), (7 : UInt8), (7 : UInt8), (7 : UInt8), (7 : UInt8), (7 : UInt8), (7 : UInt8), (7 : UInt8), (7 : UInt8), (7 : UInt8), (7 : UInt8), (7 : UInt8), (7 : UInt8), (7 : UInt8), (7 : UInt8), (7 : UInt8), (7 : UInt8), (7 : UInt8), (7 : UInt8), (7 : UInt8), (7 : UInt8), (7 : UInt8), (7 : UInt8), (7 : UInt8), (7 : UInt8), (7 : UInt8), (7 : UInt8), (7 : UInt8), (7 : UInt8), (7 : UInt8), (7 : UInt8), (7 : UInt8), (7 : UInt8), (7 : UInt8), (7 : UInt8)]).append ([(8 : UInt8), (8 : UInt8), (8 : UInt8), (8 : UInt8), (8 : UInt8), (8 : UInt8), (8 : UInt8), (8 : UInt8), (8 : UInt8), (8 : UInt8), (8 : UInt8), (8 : UInt8), (8 : UInt8), (8 : UInt8), (8 : UInt8), (8 : UInt8), (8 : UInt8), (8 : UInt8), (8 : UInt8), (8 : UInt8), (8 : UInt8), (8 : UInt8), (8 : UInt8), (8 : UInt8), (8 : UInt8), (8 : UInt8), (8 : UInt8), (8 : UInt8), (8 : UInt8), (8 : UInt8), (8 : UInt8), (8 : UInt8), (8 : UInt8), (8 : UInt8), (8 : UInt8), (8 : UInt8), (8 : UInt8), (8 : UInt8), (8 : UInt8), (8 : UInt8), (8 : UInt8), (8 : UInt8), (8 : UInt8), (8 : UInt8), (8 : UInt8), (8 : UInt8), (8 : UInt8), (8 : UInt8), (8 : UInt8), (8 : UInt8), (8 : UInt8), (8 : UInt8), (8 : UInt8), (8 : UInt8), (8 : UInt8), (8 : UInt8), (8 : UInt8), (8 : UInt8), (8 : UInt8), (8 : UInt8), (8 : UInt8), (8 : UInt8), (8 : UInt8), (8 : UInt8)].append [(8 : UInt8), (8 : UInt8), (8 : UInt8), (8 : UInt8), (8 : UInt8), (8 : UInt8), (8 : UInt8), (8 : UInt8), (8 : UInt8), (8 : UInt8), (8 : UInt8), (8 : UInt8), (8 : UInt8), (8 : UInt8), (8 : UInt8), (8 : UInt8), (8 : UInt8), (8 : UInt8), (8 : UInt8), (8 : UInt8), (8 : UInt8), (8 : UInt8), (8 : UInt8), (8 : UInt8), (8 : UInt8), (8 : UInt8), (8 : UInt8), (8 : UInt8), (8 : UInt8), (8 : UInt8), (8 : UInt8), (8 : UInt8), (8 : UInt8), (8 : UInt8), (8 : UInt8), (8 : UInt8), (8 : UInt8), (8 : UInt8), (8 : UInt8), (8 : UInt8), (8 : UInt8), (8 : UInt8), (8 : UInt8), (8 : UInt8), (8 : UInt8), (8 : UInt8), (8 : UInt8), (8 : UInt8), (8 : UInt8), (8 : UInt8), (8 : UInt8), (8 : UInt8), (8 : UInt8), (8 : UInt8), (8 : UInt8), (8 : UInt8), (8 : UInt8), (8 : UInt8), (8 : UInt8), (8 : UInt8), (8 : UInt8), (8 : UInt8), (8 : UInt8), (8 : UInt8)])).toArray)[(IntKind.u8.wrap (a0.fdiv ((2 : Int) ^ (32 : Nat)))).toNat]?.getD (0 : UInt8)).toNat : Int))) else none else none
else bif decide (a0 ≥ (65536 : Int)) then bif decide (a0.fdiv ((2 : Int) ^ (16 : Nat)) ≥ (256 : Int)) then bif decide ((0 : Int) ≤ IntKind.u8.wrap ((a0.fdiv ((2 : Int) ^ (16 : Nat))).fdiv ((2 : Int) ^ (8 : Nat)))) then bif (IntKind.u8.wrap ((a0.fdiv ((2 : Int) ^ (16 : Nat))).fdiv ((2 : Int) ^ (8 : Nat)))).toNat.blt (256 : Nat) then some (IntKind.i64.wrap (IntKind.i64.wrap (IntKind.i64.wrap ((0 : Int) + (16 : Int)) + (8 : Int)) + IntKind.i64.wrap (↑((ByteArray.mk (([(0 : UInt8), (1 : UInt8), (2 : UInt8), (2 : UInt8), (3 : UInt8), (3 : UInt8), (3 : UInt8), (3 : UInt8), (4 : UInt8), (4 : UInt8), (4 : UInt8), (4 : UInt8), (4 : UInt8), (4 : UInt8), (4 : UInt8), (4 : UInt8), (5 : UInt8), (5 : UInt8), (5 : UInt8), (5 : UInt8), (5 : UInt8), (5 : UInt8), (5 : UInt8), (5 : UInt8), (5 : UInt8), (5 : UInt8), (5 : UInt8), (5 : UInt8), (5 : UInt8), (5 : UInt8), (5 : UInt8), (5 : UInt8), (6 : UInt8), (6 : UInt8), (6 : UInt8), (6 : UInt8), (6 : UInt8), (6 : UInt8), (6 : UInt8), (6 : UInt8), (6 : UInt8), (6 : UInt8), (6 : UInt8), (6 : UInt8), (6 : UInt8), (6 : UInt8), (6 : UInt8), (6 : UInt8), (6 : UInt8), (6 : UInt8), (6 : UInt8), (6 : UInt8), (6 : UInt8), (6 : UInt8), (6 : UInt8), (6 : UInt8), (6 : UInt8), (6 : UInt8), (6 : UInt8), (6 : UInt8), (6 : UInt8), (6 : UInt8), (6 : UInt8), (6 : UInt8)].append [(7 : UInt8), (7 : UInt8), (7 : UInt8), (7 : UInt8), (7 : UInt8), (7 : UInt8), (7 : UInt8), (7 : UInt8), (7 : UInt8), (7 : UInt8), (7 : UInt8), (7 : UInt8), (7 : UInt8), (7 : UInt8), (7 : UInt8), (7 : UInt8), (7 : UInt8), (7 : UInt8), (7 : UInt8), (7 : UInt8), (7 : UInt8), (7 : UInt8), (7 : UInt8), (7 : UInt8), (7 : UInt8), (7 : UInt8), (7 : UInt8), (7 : UInt8), (7 : UInt8), (7 : UInt8), (7 : UInt8), (7 : UInt8), (7 : UInt8), (7 : UInt8), (7 : UInt8), (7 : UInt8), (7 : UInt8), (7 : UInt8), (7 : UInt8), (7 : UInt8), (7 : UInt8), (7 : UInt8), (7 : UInt8), (7 : UInt8), (7 : UInt8), (7 : UInt8), (7 : UInt8), (7 : UInt8), (7 : UInt8), (7 : UInt8), (7 : UInt8), (7 : UInt8), (7 : UInt8), (7 : UInt8), (7 : UInt8), (7 : UInt8), (7 : UInt8), (7 : UInt8), (7 : UInt8), (7 : UInt8), (7 : UInt8), (7 : UInt8), (7 : UInt8), (7 : UInt8)]).append ([(8 : UInt8), (8 : UInt8), (8 : UInt8), (8 : UInt8), (8 : UInt8), (8 : UInt8), (8 : UInt8), (8 : UInt8), (8 : UInt8), (8 : UInt8), (8 : UInt8), (8 : UInt8), (8 : UInt8), (8 : UInt8), (8 : UInt8), (8 : UInt8), (8 : UInt8), (8 : UInt8), (8 : UInt8), (8 : UInt8), (8 : UInt8), (8 : UInt8), (8 : UInt8), (8 : UInt8), (8 : UInt8), (8 : UInt8), (8 : UInt8), (8 : UInt8), (8 : UInt8), (8 : UInt8), (8 : UInt8), (8 : UInt8), (8 : UInt8), (8 : UInt8), (8 : UInt8), (8 : UInt8), (8 : UInt8), (8 : UInt8), (8 : UInt8), (8 : UInt8), (8 : UInt8), (8 : UInt8), (8 : UInt8), (8 : UInt8), (8 : UInt8), (8 : UInt8), (8 : UInt8), (8 : UInt8), (8 : UInt8), (8 : UInt8), (8 : UInt8), (8 : UInt8), (8 : UInt8), (8 : UInt8), (8 : UInt8), (8 : UInt8), (8 : UInt8), (8 : UInt8), (8 : UInt8), (8 : UInt8), (8 : UInt8), (8 : UInt8), (8 : UInt8), (8 : UInt8)].append [(8 : UInt8), (8 : UInt8), (8 : UInt8), (8 : UInt8), (8 : UInt8), (8 : UInt8), (8 : UInt8), (8 : UInt8), (8 : UInt8), (8 : UInt8), (8 : UInt8), (8 : UInt8), (8 : UInt8), (8 : UInt8), (8 : UInt8), (8 : UInt8), (8 : UInt8), (8 : UInt8), (8 : UInt8), (8 : UInt8), (8 : UInt8), (8 : UInt8), (8 : UInt8), (8 : UInt8), (8 : UInt8), (8 : UInt8), (8 : UInt8), (8 : UInt8), (8 : UInt8), (8 : UInt8), (8 : UInt8), (8 : UInt8), (8 : UInt8), (8 : UInt8), (8 : UInt8), (8 : UInt8), (8 : UInt8), (8 : UInt8), (8 : UInt8), (8 : UInt8), (8 : UInt8), (8 : UInt8), (8 : UInt8), (8 : UInt8), (8 : UInt8), (8 : UInt8), (8 : UInt8), (8 : UInt8), (8 : UInt8), (8 : UInt8), (8 : UInt8), (8 : UInt8), (8 : UInt8), (8 : UInt8), (8 : UInt8), (8 : UInt8), (8 : UInt8), (8 : UInt8), (8 : UInt8), (8 : UInt8), (8 : UInt8), (8 : UInt8), (8 : UInt8), (8 : UInt8)])).toArray)[(IntKind.u8.wrap ((a0.fdiv ((2 : Int) ^ (16 : Nat))).fdiv ((2 : Int) ^ (8 : Nat)))).toNat]?.getD (0 : UInt8)).toNat : Int))) else none else none else bif decide ((0 : Int) ≤ IntKind.u8.wrap (a0.fdiv ((2 : Int) ^ (16 : Nat)))) then bif (IntKind.u8.wrap (a0.fdiv ((2 : Int) ^ (16 : Nat)))).toNat.blt (256 : Nat) then some (IntKind.i64.wrap (IntKind.i64.wrap ((0 : Int) + (16 : Int)) + IntKind.i64.wrap (↑((ByteArray.mk (([(0 : UInt8), (1 : UInt8), (2 : UInt8), (2 : UInt8), (3 : UInt8), (3 : UInt8), (3 : UInt8), (3 : UInt8), (4 : UInt8), (4 : UInt8), (4 : UInt8), (4 : UInt8), (4 : UInt8), (4 : UInt8), (4 : UInt8), (4 : UInt8), (5 : UInt8), (5 : UInt8), (5 : UInt8), (5 : UInt8), (5 : UInt8), (5 : UInt8), (5 : UInt8), (5 : UInt8), (5 : UInt8), (5 : UInt8), (5 : UInt8), (5 : UInt8), (5 : UInt8), (5 : UInt8), (5 : UInt8), (5 : UInt8), (6 : UInt8), (6 : UInt8), (6 : UInt8), (6 : UInt8), (6 : UInt8), (6 : UInt8), (6 : UInt8), (6 : UInt8), (6 : UInt8), (6 : UInt8), (6 : UInt8), (6 : UInt8), (6 : UInt8), (6 : UInt8), (6 : UInt8), (6 : UInt8), (6 : UInt8), (6 : UInt8), (6 : UInt8), (6 : UInt8), (6 : UInt8), (6 : UInt8), (6 : UInt8), (6 : UInt8), (6 : UInt8), (6 : UInt8), (6 : UInt8), (6 : UInt8), (6 : UInt8), (6 : UInt8), (6 : UInt8), (6 : UInt8)].append [(7 : UInt8), (7 : UInt8), (7 : UInt8), (7 : UInt8), (7 : UInt8), (7 : UInt8), (7 : UInt8), (7 : UInt8), (7 : UInt8), (7 : UInt8), (7 : UInt8), (7 : UInt8), (7 : UInt8), (7 : UInt8), (7 : UInt8), (7 : UInt8), (7 : UInt8), (7 : UInt8), (7 : UInt8), (7 : UInt8), (7 : UInt8), (7 : UInt8), (7 : UInt8), (7 : UInt8), (7 : UInt8), (7 : UInt8), (7 : UInt8), (7 : UInt8), (7 : UInt8), (7 : UInt8), (7 : UInt8), (7 : UInt8), (7 : UInt8), (7 : UInt8), (7 : UInt8), (7 : UInt8), (7 : UInt8), (7 : UInt8), (7 : UInt8), (7 : UInt8), (7 : UInt8), (7 : UInt8), (7 : UInt8), (7 : UInt8), (7 : UInt8), (7 : UInt8), (7 : UInt8), (7 : UInt8), (7 : UInt8), (7 : UInt8), (7 : UInt8), (7 : UInt8), (7 : UInt8), (7 : UInt8), (7 : UInt8), (7 : UInt8), (7 : UInt8), (7 : UInt8), (7 : UInt8), (7 : UInt8), (7 : UInt8), (7 : UInt8), (7 : UInt8), (7 : UInt8)]).append ([(8 : UInt8), (8 : UInt8), (8 : UInt8), (8 : UInt8), (8 : UInt8), (8 : UInt8), (8 : UInt8), (8 : UInt8), (8 : UInt8), (8 : UInt8), (8 : UInt8), (8 : UInt8), (8 : UInt8), (8 : UInt8), (8 : UInt8), (8 : UInt8), (8 : UInt8), (8 : UInt8), (8 : UInt8), (8 : UInt8), (8 : UInt8), (8 : UInt8), (8 : UInt8), (8 : UInt8), (8 : UInt8), (8 : UInt8), (8 : UInt8), (8 : UInt8), (8 : UInt8), (8 : UInt8), (8 : UInt8), (8 : UInt8), (8 : UInt8), (8 : UInt8), (8 : UInt8), (8 : UInt8), (8 : UInt8), (8 : UInt8), (8 : UInt8), (8 : UInt8), (8 : UInt8), (8 : UInt8), (8 : UInt8), (8 : UInt8), (8 : UInt8), (8 : UInt8), (8 : UInt8), (8 : UInt8), (8 : UInt8), (8 : UInt8), (8 : UInt8), (8 : UInt8), (8 : UInt8), (8 : UInt8), (8 : UInt8), (8 : UInt8), (8 : UInt8), (8 : UInt8), (8 : UInt8), (8 : UInt8), (8 : UInt8), (8 : UInt8), (8 : UInt8), (8 : UInt8)].append [(8 : UInt8), (8 : UInt8), (8 : UInt8), (8 : UInt8), (8 : UInt8), (8 : UInt8), (8 : UInt8), (8 : UInt8), (8 : UInt8), (8 : UInt8), (8 : UInt8), (8 : UInt8), (8 : UInt8), (8 : UInt8), (8 : UInt8), (8 : UInt8), (8 : UInt8), (8 : UInt8), (8 : UInt8), (8 : UInt8), (8 : UInt8), (8 : UInt8), (8 : UInt8), (8 : UInt8), (8 : UInt8), (8 : UInt8), (8 : UInt8), (8 : UInt8), (8 : UInt8), (8 : UInt8), (8 : UInt8), (8 : UInt8), (8 : UInt8), (8 : UInt8), (8 : UInt8), (8 : UInt8), (8 : UInt8), (8 : UInt8), (8 : UInt8), (8 : UInt8), (8 : UInt8), (8 : UInt8), (8 : UInt8), (8 : UInt8), (8 : UInt8), (8 : UInt8), (8 : UInt8), (8 : UInt8), (8 : UInt8), (8 : UInt8), (8 : UInt8), (8 : UInt8), (8 : UInt8), (8 : UInt8), (8 : UInt8), (8 : UInt8), (8 : UInt8), (8 : UInt8), (8 : UInt8), (8 : UInt8), (8 : UInt8), (8 : UInt8), (8 : UInt8), (8 : UInt8)])).toArray)[(IntKind.u8.wrap (a0.fdiv ((2 : Int) ^ (16 : Nat)))).toNat]?.getD (0 : UInt8)).toNat : Int))) else none else none else bif decide (a0 ≥ (256 : Int)) then bif decide ((0 : Int) ≤ IntKind.u8.wrap (a0.fdiv ((2 : Int) ^ (8 : Nat)))) then bif (IntKind.u8.wrap (a0.fdiv ((2 : Int) ^ (8 : Nat)))).toNat.blt (256 : Nat) then some (IntKind.i64.wrap (IntKind.i64.wrap ((0 : Int) + (8 : Int)) + IntKind.i64.wrap (↑((ByteArray.mk (([(0 : UInt8), (1 : UInt8), (2 : UInt8), (2 : UInt8), (3 : UInt8), (3 : UInt8), (3 : UInt8), (3 : UInt8), (4 : UInt8), (4 : UInt8), (4 : UInt8), (4 : UInt8), (4 : UInt8), (4 : UInt8), (4 : UInt8), (4 : UInt8), (5 : UInt8), (5 : UInt8), (5 : UInt8), (5 : UInt8), (5 : UInt8), (5 : UInt8), (5 : UInt8), (5 : UInt8), (5 : UInt8), (5 : UInt8), (5 : UInt8), (5 : UInt8), (5 : UInt8), (5 : UInt8), (5 : UInt8), (5 : UInt8), (6 : UInt8), (6 : UInt8), (6 : UInt8), (6 : UInt8), (6 : UInt8), (6 : UInt8), (6 : UInt8), (6 : UInt8), (6 : UInt8), (6 : UInt8), (6 : UInt8), (6 : UInt8), (6 : UInt8), (6 : UInt8), (6 : UInt8), (6 : UInt8), (6 : UInt8), (6 : UInt8), (6 : UInt8), (6 : UInt8), (6 : UInt8), (6 : UInt8), (6 : UInt8), (6 : UInt8), (6 : UInt8), (6 : UInt8), (6 : UInt8), (6 : UInt8), (6 : UInt8), (6 : UInt8), (6 : UInt8), (6 : UInt8)].append [(7 : UInt8), (7 : UInt8), (7 : UInt8), (7 : UInt8), (7 : UInt8), (7 : UInt8), (7 : UInt8), (7 : UInt8), (7 : UInt8), (7 : UInt8), (7 : UInt8), (7 : UInt8), (7 : UInt8), (7 : UInt8), (7 : UInt8), (7 : UInt8), (7 : UInt8), (7 : UInt8), (7 : UInt8), (7 : UInt8), (7 : UInt8), (7 : UInt8), (7 : UInt8), (7 : UInt8), (7 : UInt8), (7 : UInt8), (7 : UInt8), (7 : UInt8), (7 : UInt8), (7 : UInt8), (7 : UInt8), (7 : UInt8), (7 : UInt8), (7 : UInt8), (7 : UInt8), (7 : UInt8), (7 : UInt8), (7 : UInt8), (7 : UInt8), (7 : UInt8), (7 : UInt8), (7 : UInt8), (7 : UInt8), (7 : UInt8), (7 : UInt8), (7 : UInt8), (7 : UInt8), (7 : UInt8), (7 : UInt8), (7 : UInt8), (7 : UInt8), (7 : UInt8), (7 : UInt8), (7 : UInt8), (7 : UInt8), (7 : UInt8), (7 : UInt8), (7 : UInt8), (7 : UInt8), (7 : UInt8), (7 : UInt8), (7 : UInt8), (7 : UInt8), (7 : UInt8)]).append ([(8 : UInt8), (8 : UInt8), (8 : UInt8), (8 : UInt8), (8 : UInt8), (8 : UInt8), (8 : UInt8), (8 : UInt8), (8 : UInt8), (8 : UInt8), (8 : UInt8), (8 : UInt8), (8 : UInt8), (8 : UInt8), (8 : UInt8), (8 : UInt8), (8 : UInt8), (8 : UInt8), (8 : UInt8), (8 : UInt8), (8 : UInt8), (8 : UInt8), (8 : UInt8), (8 : UInt8), (8 : UInt8), (8 : UInt8), (8 : UInt8), (8 : UInt8), (8 : UInt8), (8 : UInt8), (8 : UInt8), (8 : UInt8), (8 : UInt8), (8 : UInt8), (8 : UInt8), (8 : UInt8), (8 : UInt8), (8 : UInt8), (8 : UInt8), (8 : UInt8), (8 : UInt8), (8 : UInt8), (8 : UInt8), (8 : UInt8), (8 : UInt8), (8 : UInt8), (8 : UInt8), (8 : UInt8), (8 : UInt8), (8 : UInt8), (8 : UInt8), (8 : UInt8), (8 : UInt8), (8 : UInt8), (8 : UInt8), (8 : UInt8), (8 : UInt8), (8 : UInt8), (8 : UInt8), (8 : UInt8), (8 : UInt8), (8 : UInt8), (8 : UInt8), (8 : UInt8)].append [(8 : UInt8), (8 : UInt8), (8 : UInt8), (8 : UInt8), (8 : UInt8), (8 : UInt8), (8 : UInt8), (8 : UInt8), (8 : UInt8), (8 : UInt8), (8 : UInt8), (8 : UInt8), (8 : UInt8), (8 : UInt8), (8 : UInt8), (8 : UInt8), (8 : UInt8), (8 : UInt8), (8 : UInt8), (8 : UInt8), (8 : UInt8), (8 : UInt8), (8 : UInt8), (8 : UInt8), (8 : UInt8), (8 : UInt8), (8 : UInt8), (8 : UInt8), (8 : UInt8), (8 : UInt8), (8 : UInt8), (8 : UInt8), (8 : UInt8), (8 : UInt8), (8 : UInt8), (8 : UInt8), (8 : UInt8), (8 : UInt8), (8 : UInt8), (8 : UInt8), (8 : UInt8), (8 : UInt8), (8 : UInt8), (8 : UInt8), (8 : UInt8), (8 : UInt8), (8 : UInt8), (8 : UInt8), (8 : UInt8), (8 : UInt8), (8 : UInt8), (8 : UInt8), (8 : UInt8), (8 : UInt8), (8 : UInt8), (8 : UInt8), (8 : UInt8), (8 : UInt8), (8 : UInt8), (8 : UInt8), (8 : UInt8), (8 : UInt8), (8 : UInt8), (8 : UInt8)])).toArray)[(IntKind.u8.wrap (a0.fdiv ((2 : Int) ^ (8 : Nat)))).toNat]?.getD (0 : UInt8)).toNat : Int))) else none else none else bif decide ((0 : Int) ≤ IntKind.u8.wrap a0) then bif (IntKind.u8.wrap a0).toNat.blt (256 : Nat) then some (IntKind.i64.wrap ((0 : Int) + IntKind.i64.wrap (↑((ByteArray.mk (([(0 : UInt8), (1 : UInt8), (2 : UInt8), (2 : UInt8), (3 : UInt8), (3 : UInt8), (3 : UInt8), (3 : UInt8), (4 : UInt8), (4 : UInt8), (4 : UInt8), (4 : UInt8), (4 : UInt8), (4 : UInt8), (4 : UInt8), (4 : UInt8), (5 : UInt8), (5 : UInt8), (5 : UInt8), (5 : UInt8), (5 : UInt8), (5 : UInt8), (5 : UInt8), (5 : UInt8), (5 : UInt8), (5 : UInt8), (5 : UInt8), (5 : UInt8), (5 : UInt8), (5 : UInt8), (5 : UInt8), (5 : UInt8), (6 : UInt8), (6 : UInt8), (6 : UInt8), (6 : UInt8), (6 : UInt8), (6 : UInt8), (6 : UInt8), (6 : UInt8), (6 : UInt8), (6 : UInt8), (6 : UInt8), (6 : UInt8), (6 : UInt8), (6 : UInt8), (6 : UInt8), (6 : UInt8), (6 : UInt8), (6 : UInt8), (6 : UInt8), (6 : UInt8), (6 : UInt8), (6 : UInt8), (6 : UInt8), (6 : UInt8), (6 : UInt8), (6 : UInt8), (6 : UInt8), (6 : UInt8), (6 : UInt8), (6 : UInt8), (6 : UInt8), (6 : UInt8)].append [(7 : UInt8), (7 : UInt8), (7 : UInt8), (7 : UInt8), (7 : UInt8), (7 : UInt8), (7 : UInt8), (7 : UInt8), (7 : UInt8), (7 : UInt8), (7 : UInt8), (7 : UInt8), (7 : UInt8), (7 : UInt8), (7 : UInt8), (7 : UInt8), (7 : UInt8), (7 : UInt8), (7 : UInt8), (7 : UInt8), (7 : UInt8), (7 : UInt8), (7 : UInt8), (7 : UInt8), (7 : UInt8), (7 : UInt8), (7 : UInt8), (7 : UInt8), (7 : UInt8), (7 : UInt8), (7 : UInt8), (7 : UInt8), (7 : UInt8), (7 : UInt8), (7 : UInt8), (7 : UInt8), (7 : UInt8), (7 : UInt8), (7 : UInt8), (7 : UInt8), (7 : UInt8), (7 : UInt8), (7 : UInt8), (7 : UInt8), (7 : UInt8), (7 : UInt8), (7 : UInt8), (7 : UInt8), (7 : UInt8), (7 : UInt8), (7 : UInt8), (7 : UInt8), (7 : UInt8), (7 : UInt8), (7 : UInt8), (7 : UInt8), (7 : UInt8), (7 : UInt8), (7 : UInt8), (7 : UInt8), (7 : UInt8), (7 : UInt8), (7 : UInt8), (7 : UInt8)]).append ([(8 : UInt8), (8 : UInt8), (8 : UInt8), (8 : UInt8), (8 : UInt8), (8 : UInt8), (8 : UInt8), (8 : UInt8), (8 : UInt8), (8 : UInt8), (8 : UInt8), (8 : UInt8), (8 : UInt8), (8 : UInt8), (8 : UInt8), (8 : UInt8), (8 : UInt8), (8 : UInt8), (8 : UInt8), (8 : UInt8), (8 : UInt8), (8 : UInt8), (8 : UInt8), (8 : UInt8), (8 : UInt8), (8 : UInt8), (8 : UInt8), (8 : UInt8), (8 : UInt8), (8 : UInt8), (8 : UInt8), (8 : UInt8), (8 : UInt8), (8 : UInt8), (8 : UInt8), (8 : UInt8), (8 : UInt8), (8 : UInt8), (8 : UInt8), (8 : UInt8), (8 : UInt8), (8 : UInt8), (8 : UInt8), (8 : UInt8), (8 : UInt8), (8 : UInt8), (8 : UInt8), (8 : UInt8), (8 : UInt8), (8 : UInt8), (8 : UInt8), (8 : UInt8), (8 : UInt8), (8 : UInt8), (8 : UInt8), (8 : UInt8), (8 : UInt8), (8 : UInt8), (8 : UInt8), (8 : UInt8), (8 : UInt8), (8 : UInt8), (8 : UInt8), (8 : UInt8)].append [(8 : UInt8), (8 : UInt8), (8 : UInt8), (8 : UInt8), (8 : UInt8), (8 : UInt8), (8 : UInt8), (8 : UInt8), (8 : UInt8), (8 : UInt8), (8 : UInt8), (8 : UInt8), (8 : UInt8), (8 : UInt8), (8 : UInt8), (8 : UInt8), (8 : UInt8), (8 : UInt8), (8 : UInt8), (8 : UInt8), (8 : UInt8), (8 : UInt8), (8 : UInt8), (8 : UInt8), (8 : UInt8), (8 : UInt8), (8 : UInt8), (8 : UInt8), (8 : UInt8), (8 : UInt8), (8 : UInt8), (8 : UInt8), (8 : UInt8), (8 : UInt8), (8 : UInt8), (8 : UInt8), (8 : UInt8), (8 : UInt8), (8 : UInt8), (8 : UInt8), (8 : UInt8), (8 : UInt8), (8 : UInt8), (8 : UInt8), (8 : UInt8), (8 : UInt8), (8 : UInt8), (8 : UInt8), (8 : UInt8), (8 : UInt8), (8 : UInt8), (8 : UInt8), (8 : UInt8), (8 : UInt8), (8 : UInt8), (8 : UInt8), (8 : UInt8), (8 : UInt8), (8 : UInt8), (8 : UInt8), (8 : UInt8), (8 : UInt8), (8 : UInt8), (8 : UInt8)])).toArray)[(IntKind.u8.wrap a0).toNat]?.getD (0 : UInt8)).toNat : Int))) else none else none
noncomputable def F (K : Nat) : sig.In → Option (Int) := fun x => f K x.1
noncomputable def cv : sig.In → Int → sig.Ou := fun x r => (r, ())
theorem rets (K : Nat) : ∀ x y, withCv (F K) cv x = some y → Rets M 178 sig x y := runF_retsS (C := (C K)) (LP := noLoops) (RF := noRefit) (CP := noCuts) callsE_ok mxd noRefit_ok noCuts_ok (noL (by kernel_rfl)) (lb rfl) Tryz.func178 (by kernel_rfl) fun x => by
  rw [withCv_def]
  unfold F f
  try simp only [el]
  kernel_rfl
noncomputable def e (K : Nat) : En M := ⟨178, sig, _, F K, cv, by rfl, Tryz.f178, Tryz.func178, by kernel_rfl, rfl, rets K⟩
end math_bits_Len64
namespace span_ones
noncomputable def sig : Sig := ⟨(.ty yI), [], (.ty yI), []⟩
noncomputable def C {α : Type} (K : Nat) : CallsBy α := callsE (M := M) [math_bits_Len64.e K]
noncomputable def f (K : Nat) (a0 : Int) : Option (Int) := (math_bits_Len64.f K (IntKind.u64.wrap a0)).bind fun t => bif decide (t < (0 : Int)) then none else some (IntKind.i64.wrap (IntKind.u64.wrap (IntKind.u64.wrap ((1 : Int) * (2 : Int) ^ min t.toNat (64 : Nat)) - (1 : Int))))
noncomputable def F (K : Nat) : sig.In → Option (Int) := fun x => f K x.1
noncomputable def cv : sig.In → Int → sig.Ou := fun x r => (r, ())
theorem rets (K : Nat) : ∀ x y, withCv (F K) cv x = some y → Rets M 220 sig x y := runF_retsS (C := (C K)) (LP := noLoops) (RF := noRefit) (CP := noCuts) callsE_ok mxd noRefit_ok noCuts_ok (noL (by kernel_rfl)) (lb rfl) Tryz.func220 (by kernel_rfl) fun x => by
  rw [withCv_def]
  unfold F f
  try simp only [el]
  kernel_rfl
noncomputable def e (K : Nat) : En M := ⟨220, sig, _, F K, cv, by rfl, Tryz.f220, Tryz.func220, by kernel_rfl, rfl, rets K⟩
end span_ones
namespace span_Span_turned
noncomputable def sig : Sig := ⟨(.agg (.cons (.ty yI) (.ty yI))), [], (.agg (.cons (.ty yI) (.ty yI))), []⟩
noncomputable def C {α : Type} (K : Nat) : CallsBy α := callsE (M := M) []
noncomputable def f (K : Nat) (a0 : Int) (a1 : Int) : Option (Int × Int) := some (IntKind.i64.wrap (↑(BitVec.ofInt (64 : Nat) (if true = true then (-1 : Int) else IntKind.i64.max) ^^^ BitVec.ofInt (64 : Nat) a1).toNat : Int), IntKind.i64.wrap (↑(BitVec.ofInt (64 : Nat) (if true = true then (-1 : Int) else IntKind.i64.max) ^^^ BitVec.ofInt (64 : Nat) a0).toNat : Int))
noncomputable def F (K : Nat) : sig.In → Option (Int × Int) := fun x => f K x.1.1 x.1.2
noncomputable def cv : sig.In → (Int × Int) → sig.Ou := fun x r => ((r.1, r.2), ())
theorem rets (K : Nat) : ∀ x y, withCv (F K) cv x = some y → Rets M 221 sig x y := runF_retsS (C := (C K)) (LP := noLoops) (RF := noRefit) (CP := noCuts) callsE_ok mxd noRefit_ok noCuts_ok (noL (by kernel_rfl)) (lb rfl) Tryz.func221 (by kernel_rfl) fun x => by
  rw [withCv_def]
  unfold F f
  try simp only [el]
  kernel_rfl
noncomputable def e (K : Nat) : En M := ⟨221, sig, _, F K, cv, by rfl, Tryz.f221, Tryz.func221, by kernel_rfl, rfl, rets K⟩
end span_Span_turned
namespace span_either
noncomputable def sig : Sig := ⟨(.cons (.agg (.cons (.ty yI) (.ty yI))) (.agg (.cons (.ty yI) (.ty yI)))), [], (.agg (.cons (.ty yI) (.ty yI))), []⟩
noncomputable def cv : sig.In → (Int × Int) → sig.Ou := fun x r => ((r.1, r.2), ())
noncomputable def Fs (self : Int → Int → Int → Int → Option (Int × Int)) : sig.In → Option (Int × Int) := fun x => self x.1.1.1 x.1.1.2 x.1.2.1 x.1.2.2
noncomputable def C {α : Type} (K : Nat) (self : Int → Int → Int → Int → Option (Int × Int)) (ih : ∀ x y, withCv (Fs self) cv x = some y → Rets M 207 sig x y) : CallsBy α := callsE (M := M) [span_Span_above.e K, span_ones.e K, span_Span_below.e K, span_Span_turned.e K, ⟨207, sig, _, Fs self, cv, rfl, Tryz.f207, Tryz.func207, by kernel_rfl, rfl, ih⟩, span_Any.e K]
noncomputable def CP {α : Type} (K : Nat) (self : Int → Int → Int → Int → Option (Int × Int)) (ih : ∀ x y, withCv (Fs self) cv x = some y → Rets M 207 sig x y) : CutBy α := (cpPut 1 (rpCut M bindC [.bool] [5] (C K self ih) (eqBy M.P)) (cpPut 3 (rpCut M bindC [.bool] [19] (C K self ih) (eqBy M.P)) (cpPut 5 (rpCut M bindC [.bool] [31] (C K self ih) (eqBy M.P)) (cpPut 7 (rpCut M bindC [.bool] [43] (C K self ih) (eqBy M.P)) noCuts))))
theorem CP_ok {α : Type} (K : Nat) (self : Int → Int → Int → Int → Option (Int × Int)) (ih : ∀ x y, withCv (Fs self) cv x = some y → Rets M 207 sig x y) : CutsOk (α := α) M 0 (CP K self ih) := (cpPut_ok (rpCut_ok callsE_ok (eqBy_ok _) mxd) (cpPut_ok (rpCut_ok callsE_ok (eqBy_ok _) mxd) (cpPut_ok (rpCut_ok callsE_ok (eqBy_ok _) mxd) (cpPut_ok (rpCut_ok callsE_ok (eqBy_ok _) mxd) noCuts_ok))))
noncomputable def body (K : Nat) (self : Int → Int → Int → Int → Option (Int × Int)) (a0 : Int) (a1 : Int) (a2 : Int) (a3 : Int) : Option (Int × Int) := bindC ((span_Span_above.f K a0).bind fun t => bif t then (span_Span_above.f K a2).bind fun t => some t else some false) fun t => bif t then (span_ones.f K (if a3 > a1 then a3 else a1)).bind fun t => some ((0 : Int), t) else bindC ((span_Span_below.f K a1).bind fun t => bif t then (span_Span_below.f K a3).bind fun t => some t else some false) fun t => bif t then (span_Span_turned.f K a0 a1).bind fun t => (span_Span_turned.f K a2 a3).bind fun t_1 => self t.1 t.2 t_1.1 t_1.2 else bindC ((span_Span_below.f K a1).bind fun t => bif t then (span_Span_above.f K a2).bind fun t => some t else some false) fun t => bif t then (span_Span_turned.f K a0 a1).bind fun t => (self t.1 t.2 a2 a3).bind fun t => span_Span_turned.f K t.1 t.2 else bindC ((span_Span_above.f K a0).bind fun t => bif t then (span_Span_below.f K a3).bind fun t => some t else some false) fun t => bif t then (span_Span_turned.f K a2 a3).bind fun t => (self a0 a1 t.1 t.2).bind fun t => span_Span_turned.f K t.1 t.2 else span_Any.f K
noncomputable def f (K : Nat) : Nat → Int → Int → Int → Int → Option (Int × Int)
  | 0, _, _, _, _ => none
  | q + 1, a0, a1, a2, a3 => body K (f K q) a0 a1 a2 a3
noncomputable def F (K : Nat) : sig.In → Option (Int × Int) := fun x => f K K x.1.1.1 x.1.1.2 x.1.2.1 x.1.2.2
theorem step (K : Nat) (self : Int → Int → Int → Int → Option (Int × Int)) (ih : ∀ x y, withCv (Fs self) cv x = some y → Rets M 207 sig x y) : ∀ x y, withCv (Fs (fun a0 a1 a2 a3 => body K self a0 a1 a2 a3)) cv x = some y → Rets M 207 sig x y := runF_retsS (C := (C K self ih)) (LP := noLoops) (RF := noRefit) (CP := (CP K self ih)) callsE_ok mxd noRefit_ok (CP_ok K self ih) (noL (by kernel_rfl)) (lb rfl) Tryz.func207 (by kernel_rfl) fun x => by
  rw [withCv_def]
  unfold Fs body
  try simp only [el]
  kernel_rfl
theorem retsq (K : Nat) : ∀ q x y, withCv (Fs (f K q)) cv x = some y → Rets M 207 sig x y
  | 0, x, y, h => by cases h
  | q + 1, x, y, h => step K (f K q) (retsq K q) x y h
theorem rets (K : Nat) : ∀ x y, withCv (F K) cv x = some y → Rets M 207 sig x y := retsq K K
noncomputable def e (K : Nat) : En M := ⟨207, sig, _, F K, cv, by rfl, Tryz.f207, Tryz.func207, by kernel_rfl, rfl, rets K⟩
end span_either
namespace span_truth
noncomputable def sig : Sig := ⟨(.cons (.ty .bool) (.ty .bool)), [], (.agg (.cons (.ty yI) (.ty yI))), []⟩
noncomputable def C {α : Type} (K : Nat) : CallsBy α := callsE (M := M) [span_Of.e K]
noncomputable def f (K : Nat) (a0 : Bool) (a1 : Bool) : Option (Int × Int) := bif a0 then (span_Of.f K).bind fun t => some ((1 : Int), (1 : Int)) else bif a1 then (span_Of.f K).bind fun t => some ((0 : Int), (0 : Int)) else some ((0 : Int), (1 : Int))
noncomputable def F (K : Nat) : sig.In → Option (Int × Int) := fun (x : ((Bool × Bool) × Unit)) => f K x.1.1 x.1.2
noncomputable def cv : sig.In → (Int × Int) → sig.Ou := fun x r => ((r.1, r.2), ())
theorem rets (K : Nat) : ∀ x y, withCv (F K) cv x = some y → Rets M 208 sig x y := runF_retsS (C := (C K)) (LP := noLoops) (RF := noRefit) (CP := noCuts) callsE_ok mxd noRefit_ok noCuts_ok (noL (by kernel_rfl)) (lb rfl) Tryz.func208 (by kernel_rfl) fun (x : ((Bool × Bool) × Unit)) => by
  refine Eq.trans ?_ withCv_def.symm
  unfold F f
  try simp only [el]
  kernel_rfl
noncomputable def e (K : Nat) : En M := ⟨208, sig, _, F K, cv, by rfl, Tryz.f208, Tryz.func208, by kernel_rfl, rfl, rets K⟩
end span_truth
namespace span_Span_one
noncomputable def sig : Sig := ⟨(.agg (.cons (.ty yI) (.ty yI))), [], (.ty .bool), []⟩
noncomputable def C {α : Type} (K : Nat) : CallsBy α := callsE (M := M) []
noncomputable def f (K : Nat) (a0 : Int) (a1 : Int) : Option (Bool) := some (a0 == a1)
noncomputable def F (K : Nat) : sig.In → Option (Bool) := fun x => f K x.1.1 x.1.2
noncomputable def cv : sig.In → Bool → sig.Ou := fun x r => (r, ())
theorem rets (K : Nat) : ∀ x y, withCv (F K) cv x = some y → Rets M 210 sig x y := runF_retsS (C := (C K)) (LP := noLoops) (RF := noRefit) (CP := noCuts) callsE_ok mxd noRefit_ok noCuts_ok (noL (by kernel_rfl)) (lb rfl) Tryz.func210 (by kernel_rfl) fun x => by
  rw [withCv_def]
  unfold F f
  try simp only [el]
  kernel_rfl
noncomputable def e (K : Nat) : En M := ⟨210, sig, _, F K, cv, by rfl, Tryz.f210, Tryz.func210, by kernel_rfl, rfl, rets K⟩
end span_Span_one
namespace span_Two
noncomputable def sig : Sig := ⟨(.cons (.ty yI) (.cons (.agg (.cons (.ty yI) (.ty yI))) (.agg (.cons (.ty yI) (.ty yI))))), [], (.cons (.agg (.cons (.ty yI) (.ty yI))) (.ty .bool)), []⟩
noncomputable def C {α : Type} (K : Nat) : CallsBy α := callsE (M := M) [span_sum.e K, span_ends_put.e K, span_less.e K, span_product.e K, span_quotients.e K, span_rests.e K, span_both.e K, span_either.e K, span_truth.e K, span_Meet.e K, span_Span_one.e K, span_ends_all.e K]
noncomputable def l0.h : SSh := ⟨[5, 6, 8, 56, 57, 58], (.cons (.ptr 0 0) (.cons (.ptr 1 0) (.cons (.ptr 2 0) (.cons (.own 3) (.cons (.ty yI) (.ty yI)))))), [.cells 66 0 (.cons (.ty yI) (.ty yI)), .cells 66 0 (.cons (.ty yI) (.ty yI)), .cells 301 0 (.cons (.ty yI) (.cons (.ty yI) (.cons (.ty .bool) (.ty .bool)))), .list 2 yI []]⟩
noncomputable def l0.x : SSh := ⟨[6, 8], (.cons (.ptr 0 0) (.ptr 1 0)), [.cells 66 0 (.cons (.ty yI) (.ty yI)), .cells 301 0 (.cons (.ty yI) (.cons (.ty yI) (.cons (.ty .bool) (.ty .bool))))]⟩
noncomputable def l0.cx : l0.h.I → (Int × Int × Bool × Bool) → l0.x.I := fun x r => (((), ()), ((x.2.2.1.1, x.2.2.1.2), ((r.1, (r.2.1, (r.2.2.1, r.2.2.2))), ())))
noncomputable def l0.f (K : Nat) : Nat → Int → Int → Int → Int → Int → Int → Bool → Bool → List Int → Option (Int × Int × Bool × Bool)
  | 0, _, _, _, _, _, _, _, _, _ => none
  | k + 1, a0, a1, a2, a3, a6, a7, a8, a9, a10 => bif decide (a1 < a0) then bif decide ((0 : Int) ≤ a1) then bif a1.toNat.blt a10.length then a10[a1.toNat]?.bind fun t => (span_product.f K t a2).bind fun t_1 => (span_ends_put.f K t_1.1 t_1.2 a6 a7 a8 a9).bind fun t_2 => (span_product.f K t a3).bind fun t => (span_ends_put.f K t.1 t.2 t_2.1 t_2.2.1 t_2.2.2.1 t_2.2.2.2).bind fun t => l0.f K k a0 (IntKind.i64.wrap (a1 + (1 : Int))) a2 a3 t.1 t.2.1 t.2.2.1 t.2.2.2 a10 else none else none else some (a6, a7, a8, a9)
noncomputable def l0.F (K : Nat) (k : Nat) : l0.h.I → Option (Int × Int × Bool × Bool) := fun (x : ((Unit × (Unit × (Unit × (Unit × (Int × Int))))) × ((Int × Int) × ((Int × Int) × ((Int × (Int × (Bool × Bool))) × ((List Int) × Unit)))))) => l0.f K k x.1.2.2.2.2.1 x.1.2.2.2.2.2 x.2.1.1 x.2.1.2 x.2.2.2.1.1 x.2.2.2.1.2.1 x.2.2.2.1.2.2.1 x.2.2.2.1.2.2.2 x.2.2.2.2.1
noncomputable def l0.lp {α : Type} (K : Nat) : St → Kn α → Option α := lpX 0 135 1 l0.h l0.x (l0.F K K) l0.cx
theorem l0.ok {α : Type} (K : Nat) : LoopOk (α := α) M 0 (nthLoop Tryz.f186 0) (l0.lp K) := lpX_okS (C := (C K)) (LP := noLoops) (RF := noRefit) (CP := noCuts) (L := 20) callsE_ok mxd noRefit_ok noCuts_ok (noL (by kernel_rfl)) (lb rfl) (lb rfl) (fun x => rfl) fun k (x : ((Unit × (Unit × (Unit × (Unit × (Int × Int))))) × ((Int × Int) × ((Int × Int) × ((Int × (Int × (Bool × Bool))) × ((List Int) × Unit)))))) => by
  refine Eq.trans ?_ withCv_def.symm
  unfold l0.F
  rw [l0.f]
  try simp only [el]
  kernel_rfl
noncomputable def f (K : Nat) (a0 : Int) (a1 : Int) (a2 : Int) (a3 : Int) (a4 : Int) : Option (Int × Int × Bool) := bif a0 == (4 : Int) then (span_sum.f K a1 a3).bind fun t => (span_ends_put.f K t.1 t.2 (0 : Int) (0 : Int) false false).bind fun t => (span_sum.f K a2 a4).bind fun t_1 => (span_ends_put.f K t_1.1 t_1.2 t.1 t.2.1 t.2.2.1 t.2.2.2).bind fun t => span_ends_all.f K t.1 t.2.1 t.2.2.1 t.2.2.2 else bif a0 == (5 : Int) then (span_less.f K a1 a4).bind fun t => (span_ends_put.f K t.1 t.2 (0 : Int) (0 : Int) false false).bind fun t => (span_less.f K a2 a3).bind fun t_1 => (span_ends_put.f K t_1.1 t_1.2 t.1 t.2.1 t.2.2.1 t.2.2.2).bind fun t => span_ends_all.f K t.1 t.2.1 t.2.2.1 t.2.2.2 else bif a0 == (6 : Int) then (l0.f K K (↑(((Out.mk (V.lf (Value.int IntKind.i64 a1)) [] [(St.mk (envOf (0 : Nat) (sig.ish.enc (a0, (a1, a2), a3, a4))) (encH sig.ihs ()) ((sig.ish.enc (a0, (a1, a2), a3, a4)).length + ((135 : Nat) - (sig.ish.enc (a0, (a1, a2), a3, a4)).length))).heap.length]).v.cells ++ ((Out.mk (V.lf (Value.int IntKind.i64 a2)) [] [(St.mk (envOf (0 : Nat) (sig.ish.enc (a0, (a1, a2), a3, a4))) (encH sig.ihs ()) ((sig.ish.enc (a0, (a1, a2), a3, a4)).length + ((135 : Nat) - (sig.ish.enc (a0, (a1, a2), a3, a4)).length))).heap.length]).v.cells ++ [])).length / (1 : Nat)) : Int) (0 : Int) a3 a4 (0 : Int) (0 : Int) false false [a1, a2]).bind fun t => span_ends_all.f K t.1 t.2.1 t.2.2.1 t.2.2.2 else bif a0 == (7 : Int) then span_quotients.f K a1 a2 a3 a4 else bif a0 == (8 : Int) then span_rests.f K a1 a2 a3 a4 else bif a0 == (9 : Int) then (span_both.f K a1 a2 a3 a4).bind fun t => some (t.1, t.2, true) else bif a0 == (10 : Int) then (span_either.f K K a1 a2 a3 a4).bind fun t => some (t.1, t.2, true) else bif a0 == (11 : Int) then (span_truth.f K (decide (a2 < a3)) (decide (a1 ≥ a4))).bind fun t => some (t.1, t.2, true) else bif a0 == (12 : Int) then (span_Meet.f K a1 a2 a3 a4).bind fun t => (span_Span_one.f K a1 a2).bind fun t_1 => bif t_1 then (span_truth.f K (bif false then !(a1 == a3 && a2 == a4) else a1 == a3 && a2 == a4) !t.2.2).bind fun t => some (t.1, t.2, true) else (span_truth.f K false !t.2.2).bind fun t => some (t.1, t.2, true) else span_ends_all.f K (0 : Int) (0 : Int) false false
noncomputable def F (K : Nat) : sig.In → Option (Int × Int × Bool) := fun x => f K x.1.1 x.1.2.1.1 x.1.2.1.2 x.1.2.2.1 x.1.2.2.2
noncomputable def cv : sig.In → (Int × Int × Bool) → sig.Ou := fun x r => (((r.1, r.2.1), r.2.2), ())
theorem rets (K : Nat) : ∀ x y, withCv (F K) cv x = some y → Rets M 186 sig x y := runF_retsS (C := (C K)) (LP := (lpPut 11 (l0.lp K) noLoops)) (RF := noRefit) (CP := noCuts) callsE_ok mxd noRefit_ok noCuts_ok (show LoopsOk M 0 (lpPut 11 (l0.lp K) noLoops) (loopsOf (bodyOf Tryz.f186)) from (show loopsOf (bodyOf Tryz.f186) = [nthLoop Tryz.f186 0] by kernel_rfl) ▸ (loopsOk_put (key := 11) (by kernel_rfl) (l0.ok K) noLoops_ok (by kernel_rfl))) (lb rfl) Tryz.func186 (by kernel_rfl) fun x => by
  rw [withCv_def]
  unfold F f
  try simp only [el]
  kernel_rfl
noncomputable def e (K : Nat) : En M := ⟨186, sig, _, F K, cv, by rfl, Tryz.f186, Tryz.func186, by kernel_rfl, rfl, rets K⟩
end span_Two
namespace sign_made
noncomputable def sig : Sig := ⟨(.ty yI), [], (.agg (.cons (.ty yI) (.cons (.ty yI) (.cons (.ty yI) (.cons (.ty yI) (.cons (.ty yI) (.cons (.ty yI) (.cons (.ty yI) (.cons (.ty yI) (.ty yI)))))))))), []⟩
noncomputable def C {α : Type} (K : Nat) : CallsBy α := callsE (M := M) []
noncomputable def f (K : Nat) (a0 : Int) : Option (Int × Int × Int × Int × Int × Int × Int × Int × Int) := bif a0 == (4 : Int) then some ((7 : Int), (1 : Int), (7 : Int), (1 : Int), (2 : Int), (4 : Int), (7 : Int), (4 : Int), (5 : Int)) else bif a0 == (5 : Int) then some ((7 : Int), (1 : Int), (5 : Int), (5 : Int), (2 : Int), (1 : Int), (5 : Int), (4 : Int), (7 : Int)) else bif a0 == (6 : Int) then some ((7 : Int), (2 : Int), (7 : Int), (2 : Int), (2 : Int), (2 : Int), (7 : Int), (2 : Int), (7 : Int)) else bif a0 == (7 : Int) then some ((7 : Int), (0 : Int), (3 : Int), (2 : Int), (0 : Int), (2 : Int), (3 : Int), (0 : Int), (6 : Int)) else bif a0 == (8 : Int) then some ((3 : Int), (0 : Int), (3 : Int), (2 : Int), (0 : Int), (2 : Int), (6 : Int), (0 : Int), (6 : Int)) else bif a0 == (9 : Int) then some ((1 : Int), (2 : Int), (6 : Int), (2 : Int), (2 : Int), (2 : Int), (6 : Int), (2 : Int), (6 : Int)) else bif a0 == (10 : Int) then some ((6 : Int), (1 : Int), (1 : Int), (1 : Int), (2 : Int), (4 : Int), (1 : Int), (4 : Int), (6 : Int)) else bif a0 == (11 : Int) then some ((6 : Int), (4 : Int), (4 : Int), (2 : Int), (2 : Int), (4 : Int), (2 : Int), (2 : Int), (6 : Int)) else bif a0 == (12 : Int) then some ((6 : Int), (2 : Int), (2 : Int), (2 : Int), (4 : Int), (2 : Int), (2 : Int), (2 : Int), (6 : Int)) else some ((0 : Int), (0 : Int), (0 : Int), (0 : Int), (0 : Int), (0 : Int), (0 : Int), (0 : Int), (0 : Int))
noncomputable def F (K : Nat) : sig.In → Option (Int × Int × Int × Int × Int × Int × Int × Int × Int) := fun x => f K x.1
noncomputable def cv : sig.In → (Int × Int × Int × Int × Int × Int × Int × Int × Int) → sig.Ou := fun x r => ((r.1, (r.2.1, (r.2.2.1, (r.2.2.2.1, (r.2.2.2.2.1, (r.2.2.2.2.2.1, (r.2.2.2.2.2.2.1, (r.2.2.2.2.2.2.2.1, r.2.2.2.2.2.2.2.2)))))))), ())
theorem rets (K : Nat) : ∀ x y, withCv (F K) cv x = some y → Rets M 212 sig x y := runF_retsS (C := (C K)) (LP := noLoops) (RF := noRefit) (CP := noCuts) callsE_ok mxd noRefit_ok noCuts_ok (noL (by kernel_rfl)) (lb rfl) Tryz.func212 (by kernel_rfl) fun x => by
  rw [withCv_def]
  unfold F f
  try simp only [el]
  kernel_rfl
noncomputable def e (K : Nat) : En M := ⟨212, sig, _, F K, cv, by rfl, Tryz.f212, Tryz.func212, by kernel_rfl, rfl, rets K⟩
end sign_made
namespace sign_Two
noncomputable def sig : Sig := ⟨(.cons (.ty yI) (.cons (.ty yI) (.ty yI))), [], (.ty yI), []⟩
noncomputable def C {α : Type} (K : Nat) : CallsBy α := callsE (M := M) [sign_made.e K]
noncomputable def f (K : Nat) (a0 : Int) (a1 : Int) (a2 : Int) : Option (Int) := (runF M sig (C K) (eqBy M.P) noLoops noRefit noCuts 20 Tryz.f187 (bodyOf Tryz.f187) ((a0, (a1, a2)), ())).bind fun y => some y.1
noncomputable def F (K : Nat) : sig.In → Option (Int) := fun x => f K x.1.1 x.1.2.1 x.1.2.2
noncomputable def cv : sig.In → Int → sig.Ou := fun x r => (r, ())
theorem rets (K : Nat) : ∀ x y, withCv (F K) cv x = some y → Rets M 187 sig x y := runF_retsS (C := (C K)) (LP := noLoops) (RF := noRefit) (CP := noCuts) callsE_ok mxd noRefit_ok noCuts_ok (show LoopsOk M 0 noLoops (loopsOf (bodyOf Tryz.f187)) from (show loopsOf (bodyOf Tryz.f187) = [nthLoop Tryz.f187 0, nthLoop Tryz.f187 1] by kernel_rfl) ▸ (loopsOk_skip (key := 3) (by kernel_rfl) (by kernel_rfl) (loopsOk_skip (key := 6) (by kernel_rfl) (by kernel_rfl) noLoops_ok))) (lb rfl) Tryz.func187 (by kernel_rfl) fun x => asrun_eq
noncomputable def e (K : Nat) : En M := ⟨187, sig, _, F K, cv, by rfl, Tryz.f187, Tryz.func187, by kernel_rfl, rfl, rets K⟩
end sign_Two
namespace parity_pair
noncomputable def sig : Sig := ⟨(.cons (.ty yI) (.cons (.ty yI) (.ty yI))), [], (.ty yI), []⟩
noncomputable def C {α : Type} (K : Nat) : CallsBy α := callsE (M := M) []
noncomputable def CP {α : Type} (K : Nat) : CutBy α := (cpPut 10 (rpCut M bindC [.bool] [23] (C K) (eqBy M.P)) noCuts)
theorem CP_ok {α : Type} (K : Nat) : CutsOk (α := α) M 0 (CP K) := (cpPut_ok (rpCut_ok callsE_ok (eqBy_ok _) mxd) noCuts_ok)
noncomputable def f (K : Nat) (a0 : Int) (a1 : Int) (a2 : Int) : Option (Int) := bif a0 == (4 : Int) then bif a1 == a2 then some (1 : Int) else some (2 : Int) else bif a0 == (5 : Int) then bif a1 == a2 then some (1 : Int) else some (2 : Int) else bif a0 == (10 : Int) then bif a1 == a2 then some (1 : Int) else some (2 : Int) else bif a0 == (6 : Int) then bindC (bif a1 == (2 : Int) then some (a2 == (2 : Int)) else some false) fun t => bif t then some (2 : Int) else some (1 : Int) else bif a0 == (9 : Int) then bindC (bif a1 == (2 : Int) then some (a2 == (2 : Int)) else some false) fun t => bif t then some (2 : Int) else some (1 : Int) else bif a0 == (8 : Int) then bif a2 == (1 : Int) then some a1 else some (3 : Int) else bif a0 == (12 : Int) then bif a1 != a2 then some (1 : Int) else some (3 : Int) else bif a0 == (7 : Int) then some (3 : Int) else bif a0 == (11 : Int) then some (3 : Int) else some (0 : Int)
noncomputable def F (K : Nat) : sig.In → Option (Int) := fun x => f K x.1.1 x.1.2.1 x.1.2.2
noncomputable def cv : sig.In → Int → sig.Ou := fun x r => (r, ())
theorem rets (K : Nat) : ∀ x y, withCv (F K) cv x = some y → Rets M 213 sig x y := runF_retsS (C := (C K)) (LP := noLoops) (RF := noRefit) (CP := (CP K)) callsE_ok mxd noRefit_ok (CP_ok K) (noL (by kernel_rfl)) (lb rfl) Tryz.func213 (by kernel_rfl) fun x => by
  rw [withCv_def]
  unfold F f
  try simp only [el]
  kernel_rfl
noncomputable def e (K : Nat) : En M := ⟨213, sig, _, F K, cv, by rfl, Tryz.f213, Tryz.func213, by kernel_rfl, rfl, rets K⟩
end parity_pair
namespace parity_Two
noncomputable def sig : Sig := ⟨(.cons (.ty yI) (.cons (.ty yI) (.ty yI))), [], (.ty yI), []⟩
noncomputable def C {α : Type} (K : Nat) : CallsBy α := callsE (M := M) [parity_pair.e K]
noncomputable def CP {α : Type} (K : Nat) : CutBy α := (cpPut 8 (rpCut M bindC [.bool] [27] (C K) (eqBy M.P)) noCuts)
theorem CP_ok {α : Type} (K : Nat) : CutsOk (α := α) M 0 (CP K) := (cpPut_ok (rpCut_ok callsE_ok (eqBy_ok _) mxd) noCuts_ok)
noncomputable def l1.h : SSh := ⟨[0, 1, 2, 7, 8, 9], (.cons (.ty yI) (.cons (.ty yI) (.cons (.ty yI) (.cons (.ty yI) (.cons (.ty yI) (.ty yI)))))), []⟩
noncomputable def l1.x : SSh := ⟨[0, 1, 2, 7, 8], (.cons (.ty yI) (.cons (.ty yI) (.cons (.ty yI) (.cons (.ty yI) (.ty yI))))), []⟩
noncomputable def l1.cx : l1.h.I → Int → l1.x.I := fun x r => ((x.1.1, (x.1.2.1, (x.1.2.2.1, (r, x.1.2.2.2.2.1)))), ())
noncomputable def l1.f (K : Nat) : Nat → Int → Int → Int → Int → Int → Int → Option (Int)
  | 0, _, _, _, _, _, _ => none
  | k + 1, a0, a1, a2, a3, a4, a5 => bif decide (a5 ≤ (2 : Int)) then bindC (bif IntKind.i64.wrap (↑(BitVec.ofInt (64 : Nat) a1 &&& BitVec.ofInt (64 : Nat) a4).toNat : Int) != (0 : Int) then some (IntKind.i64.wrap (↑(BitVec.ofInt (64 : Nat) a2 &&& BitVec.ofInt (64 : Nat) a5).toNat : Int) != (0 : Int)) else some false) fun t => bif t then (parity_pair.f K a0 a4 a5).bind fun t => l1.f K k a0 a1 a2 (IntKind.i64.wrap (↑(BitVec.ofInt (64 : Nat) a3 ||| BitVec.ofInt (64 : Nat) t).toNat : Int)) a4 (IntKind.i64.wrap (a5 + (1 : Int))) else l1.f K k a0 a1 a2 a3 a4 (IntKind.i64.wrap (a5 + (1 : Int))) else some a3
noncomputable def l1.F (K : Nat) (k : Nat) : l1.h.I → Option (Int) := fun x => l1.f K k x.1.1 x.1.2.1 x.1.2.2.1 x.1.2.2.2.1 x.1.2.2.2.2.1 x.1.2.2.2.2.2
noncomputable def l1.lp {α : Type} (K : Nat) : St → Kn α → Option α := lpX 0 35 2 l1.h l1.x (l1.F K K) l1.cx
theorem l1.ok {α : Type} (K : Nat) : LoopOk (α := α) M 0 (nthLoop Tryz.f188 1) (l1.lp K) := lpX_okS (C := (C K)) (LP := noLoops) (RF := noRefit) (CP := (CP K)) (L := 20) callsE_ok mxd noRefit_ok (CP_ok K) (noL (by kernel_rfl)) (lb rfl) (lb rfl) (fun x => rfl) fun k x => by
  rw [withCv_def]
  unfold l1.F
  rw [l1.f]
  try simp only [el]
  kernel_rfl
noncomputable def l0.h : SSh := ⟨[0, 1, 2, 7, 8], (.cons (.ty yI) (.cons (.ty yI) (.cons (.ty yI) (.cons (.ty yI) (.ty yI))))), []⟩
noncomputable def l0.x : SSh := ⟨[7], (.ty yI), []⟩
noncomputable def l0.cx : l0.h.I → Int → l0.x.I := fun x r => (r, ())
noncomputable def l0.f (K : Nat) : Nat → Int → Int → Int → Int → Int → Option (Int)
  | 0, _, _, _, _, _ => none
  | k + 1, a0, a1, a2, a3, a4 => bif decide (a4 ≤ (2 : Int)) then (l1.f K K a0 a1 a2 a3 a4 (1 : Int)).bind fun t => l0.f K k a0 a1 a2 t (IntKind.i64.wrap (a4 + (1 : Int))) else some a3
noncomputable def l0.F (K : Nat) (k : Nat) : l0.h.I → Option (Int) := fun x => l0.f K k x.1.1 x.1.2.1 x.1.2.2.1 x.1.2.2.2.1 x.1.2.2.2.2
noncomputable def l0.lp {α : Type} (K : Nat) : St → Kn α → Option α := lpX 0 35 0 l0.h l0.x (l0.F K K) l0.cx
theorem l0.ok {α : Type} (K : Nat) : LoopOk (α := α) M 0 (nthLoop Tryz.f188 0) (l0.lp K) := lpX_okS (C := (C K)) (LP := (lpPut 6 (l1.lp K) noLoops)) (RF := noRefit) (CP := (CP K)) (L := 20) callsE_ok mxd noRefit_ok (CP_ok K) (show LoopsOk M 0 (lpPut 6 (l1.lp K) noLoops) (loopsOf (nthLoop Tryz.f188 0)) from (show loopsOf (nthLoop Tryz.f188 0) = [nthLoop Tryz.f188 1] by kernel_rfl) ▸ (loopsOk_put (key := 6) (by kernel_rfl) (l1.ok K) noLoops_ok (by kernel_rfl))) (lb rfl) (lb rfl) (fun x => rfl) fun k x => by
  rw [withCv_def]
  unfold l0.F
  rw [l0.f]
  try simp only [el]
  kernel_rfl
noncomputable def f (K : Nat) (a0 : Int) (a1 : Int) (a2 : Int) : Option (Int) := l0.f K K a0 a1 a2 (0 : Int) (1 : Int)
noncomputable def F (K : Nat) : sig.In → Option (Int) := fun x => f K x.1.1 x.1.2.1 x.1.2.2
noncomputable def cv : sig.In → Int → sig.Ou := fun x r => (r, ())
theorem rets (K : Nat) : ∀ x y, withCv (F K) cv x = some y → Rets M 188 sig x y := runF_retsS (C := (C K)) (LP := (lpPut 3 (l0.lp K) (lpPut 6 (l1.lp K) noLoops))) (RF := noRefit) (CP := (CP K)) callsE_ok mxd noRefit_ok (CP_ok K) (show LoopsOk M 0 (lpPut 3 (l0.lp K) (lpPut 6 (l1.lp K) noLoops)) (loopsOf (bodyOf Tryz.f188)) from (show loopsOf (bodyOf Tryz.f188) = [nthLoop Tryz.f188 0, nthLoop Tryz.f188 1] by kernel_rfl) ▸ (loopsOk_put (key := 3) (by kernel_rfl) (l0.ok K) (loopsOk_put (key := 6) (by kernel_rfl) (l1.ok K) noLoops_ok (by kernel_rfl)) (by kernel_rfl))) (lb rfl) Tryz.func188 (by kernel_rfl) fun x => by
  rw [withCv_def]
  unfold F f
  try simp only [el]
  kernel_rfl
noncomputable def e (K : Nat) : En M := ⟨188, sig, _, F K, cv, by rfl, Tryz.f188, Tryz.func188, by kernel_rfl, rfl, rets K⟩
end parity_Two
namespace fact_Two
noncomputable def sig : Sig := ⟨(.cons (.ty yI) (.cons (.agg (.cons (.ty yI) (.cons (.ty .bool) (.cons (.ty yI) (.cons (.ty yI) (.cons (.ty yI) (.ty yI))))))) (.agg (.cons (.ty yI) (.cons (.ty .bool) (.cons (.ty yI) (.cons (.ty yI) (.cons (.ty yI) (.ty yI))))))))), [], (.cons (.agg (.cons (.ty yI) (.cons (.ty .bool) (.cons (.ty yI) (.cons (.ty yI) (.cons (.ty yI) (.ty yI))))))) (.ty .bool)), []⟩
noncomputable def C {α : Type} (K : Nat) : CallsBy α := callsE (M := M) [known_Two.e K, span_Two.e K, sign_Two.e K, parity_Two.e K, fact_whole.e K]
noncomputable def f (K : Nat) (a0 : Int) (a1 : Int) (a2 : Bool) (a3 : Int) (a4 : Int) (a5 : Int) (a6 : Int) (a7 : Int) (a8 : Bool) (a9 : Int) (a10 : Int) (a11 : Int) (a12 : Int) : Option (Int × Bool × Int × Int × Int × Int × Bool) := (known_Two.f K a0 a2 a3 a8 a9).bind fun t => (span_Two.f K a0 a4 a5 a10 a11).bind fun t_1 => (sign_Two.f K a0 a1 a7).bind fun t_2 => (parity_Two.f K a0 a6 a12).bind fun t_3 => fact_whole.f K t_2 t.1 t.2.1 t.2.2 t_1.1 t_1.2.1 t_1.2.2 t_3
noncomputable def F (K : Nat) : sig.In → Option (Int × Bool × Int × Int × Int × Int × Bool) := fun (x : ((Int × ((Int × (Bool × (Int × (Int × (Int × Int))))) × (Int × (Bool × (Int × (Int × (Int × Int))))))) × Unit)) => f K x.1.1 x.1.2.1.1 x.1.2.1.2.1 x.1.2.1.2.2.1 x.1.2.1.2.2.2.1 x.1.2.1.2.2.2.2.1 x.1.2.1.2.2.2.2.2 x.1.2.2.1 x.1.2.2.2.1 x.1.2.2.2.2.1 x.1.2.2.2.2.2.1 x.1.2.2.2.2.2.2.1 x.1.2.2.2.2.2.2.2
noncomputable def cv : sig.In → (Int × Bool × Int × Int × Int × Int × Bool) → sig.Ou := fun x r => (((r.1, (r.2.1, (r.2.2.1, (r.2.2.2.1, (r.2.2.2.2.1, r.2.2.2.2.2.1))))), r.2.2.2.2.2.2), ())
theorem rets (K : Nat) : ∀ x y, withCv (F K) cv x = some y → Rets M 157 sig x y := runF_retsS (C := (C K)) (LP := noLoops) (RF := noRefit) (CP := noCuts) callsE_ok mxd noRefit_ok noCuts_ok (noL (by kernel_rfl)) (lb rfl) Tryz.func157 (by kernel_rfl) fun (x : ((Int × ((Int × (Bool × (Int × (Int × (Int × Int))))) × (Int × (Bool × (Int × (Int × (Int × Int))))))) × Unit)) => by
  refine Eq.trans ?_ withCv_def.symm
  unfold F f
  try simp only [el]
  kernel_rfl
noncomputable def e (K : Nat) : En M := ⟨157, sig, _, F K, cv, by rfl, Tryz.f157, Tryz.func157, by kernel_rfl, rfl, rets K⟩
end fact_Two
namespace flow_Env_value
noncomputable def sig : Sig := ⟨(.cons (.agg (.cons (.ty (.slice yI)) (.cons (.ty (.slice yFunc)) (.cons (.ty (.slice yImport)) (.cons (.ty (.slice yValue)) (.ty (.slice ySum))))))) (.cons (.agg (.cons (.ty yI) (.cons (.ty yI) (.cons (.ty yI) (.cons (.ty yI) (.cons (.ty yI) (.ty (.slice yI)))))))) (.agg (.cons (.ty .bool) (.cons (.ty (.slice yValue)) (.ty (.slice (.slice yI)))))))), [], (.cons (.agg (.cons (.ty yI) (.cons (.ty .bool) (.cons (.ty yI) (.cons (.ty yI) (.cons (.ty yI) (.ty yI))))))) (.ty .bool)), []⟩
noncomputable def C {α : Type} (K : Nat) : CallsBy α := callsE (M := M) [fact_Of.e K, fact_One.e K, fact_Any.e K, fact_Two.e K]
noncomputable def f (K : Nat) (a3 : List LValue) (a4 : List LSum) (a5 : Int) (a7 : Int) (a8 : Int) (a9 : Int) (a12 : List LValue) : Option (Int × Bool × Int × Int × Int × Int × Bool) := bif a5 == (1 : Int) then (fact_Of.f K a9).bind fun t => some (t.1, t.2.1, a9, a9, a9, t.2.2, true) else bif a5 == (2 : Int) then bif decide ((0 : Int) ≤ a7) && true then a12[a7.toNat]?.bind fun t => fact_One.f K a5 t.1 t.2.1.1 t.2.1.2 t.2.2.1.1 t.2.2.1.2 t.2.2.2 else none else bif a5 == (3 : Int) then bif decide ((0 : Int) ≤ a7) && true then a12[a7.toNat]?.bind fun t => fact_One.f K a5 t.1 t.2.1.1 t.2.1.2 t.2.2.1.1 t.2.2.1.2 t.2.2.2 else none else bif a5 == (15 : Int) then (fact_Any.f K).bind fun t => some (t.1, t.2.1, t.2.2.1, t.2.2.2.1, t.2.2.2.2.1, t.2.2.2.2.2, true) else bif a5 == (13 : Int) then bif decide ((0 : Int) ≤ a8) && true then a3[a8.toNat]?.bind fun t => some (t.1, t.2.1.1, t.2.1.2, t.2.2.1.1, t.2.2.1.2, t.2.2.2, true) else none else bif a5 == (17 : Int) then bif decide ((0 : Int) ≤ a8) && true then a4[a8.toNat]?.bind fun t => bif decide ((0 : Int) ≤ a8) && true then a4[a8.toNat]?.bind fun t_1 => some (t.2.2.2.1, t.2.2.2.2.1.1, t.2.2.2.2.1.2, t.2.2.2.2.2.1.1, t.2.2.2.2.2.1.2, t.2.2.2.2.2.2, t_1.2.2.1) else none else none else bif decide ((0 : Int) ≤ a7) && true then a12[a7.toNat]?.bind fun t => bif decide ((0 : Int) ≤ a8) && true then a12[a8.toNat]?.bind fun t_1 => fact_Two.f K a5 t.1 t.2.1.1 t.2.1.2 t.2.2.1.1 t.2.2.1.2 t.2.2.2 t_1.1 t_1.2.1.1 t_1.2.1.2 t_1.2.2.1.1 t_1.2.2.1.2 t_1.2.2.2 else none else none
noncomputable def F (K : Nat) : sig.In → Option (Int × Bool × Int × Int × Int × Int × Bool) := fun (x : ((((List Int) × ((List LFunc) × ((List LImport) × ((List LValue) × (List LSum))))) × ((Int × (Int × (Int × (Int × (Int × (List Int)))))) × (Bool × ((List LValue) × (List (List Int)))))) × Unit)) => f K x.1.1.2.2.2.1 x.1.1.2.2.2.2 x.1.2.1.1 x.1.2.1.2.2.1 x.1.2.1.2.2.2.1 x.1.2.1.2.2.2.2.1 x.1.2.2.2.1
noncomputable def cv : sig.In → (Int × Bool × Int × Int × Int × Int × Bool) → sig.Ou := fun x r => (((r.1, (r.2.1, (r.2.2.1, (r.2.2.2.1, (r.2.2.2.2.1, r.2.2.2.2.2.1))))), r.2.2.2.2.2.2), ())
theorem rets (K : Nat) : ∀ x y, withCv (F K) cv x = some y → Rets M 117 sig x y := runF_retsS (C := (C K)) (LP := noLoops) (RF := noRefit) (CP := noCuts) callsE_ok mxd noRefit_ok noCuts_ok (noL (by kernel_rfl)) (lb rfl) Tryz.func117 (by kernel_rfl) fun (x : ((((List Int) × ((List LFunc) × ((List LImport) × ((List LValue) × (List LSum))))) × ((Int × (Int × (Int × (Int × (Int × (List Int)))))) × (Bool × ((List LValue) × (List (List Int)))))) × Unit)) => by
  refine Eq.trans ?_ withCv_def.symm
  unfold F f
  try simp only [el]
  kernel_rfl
noncomputable def e (K : Nat) : En M := ⟨117, sig, _, F K, cv, by rfl, Tryz.f117, Tryz.func117, by kernel_rfl, rfl, rets K⟩
end flow_Env_value
namespace state_None
noncomputable def sig : Sig := ⟨.unit, [], (.agg (.cons (.ty .bool) (.cons (.ty (.slice yValue)) (.ty (.slice (.slice yI)))))), []⟩
noncomputable def C {α : Type} (K : Nat) : CallsBy α := callsE (M := M) []
noncomputable def f (K : Nat) : Option (Bool × List LValue × List (List Int)) := some (false, [], [])
noncomputable def F (K : Nat) : sig.In → Option (Bool × List LValue × List (List Int)) := fun x => f K
noncomputable def cv : sig.In → (Bool × List LValue × List (List Int)) → sig.Ou := fun x r => ((r.1, (r.2.1, r.2.2)), ())
theorem rets (K : Nat) : ∀ x y, withCv (F K) cv x = some y → Rets M 83 sig x y := runF_retsS (C := (C K)) (LP := noLoops) (RF := noRefit) (CP := noCuts) callsE_ok mxd noRefit_ok noCuts_ok (noL (by kernel_rfl)) (lb rfl) Tryz.func83 (by kernel_rfl) fun x => by
  rw [withCv_def]
  unfold F f
  try simp only [el]
  kernel_rfl
noncomputable def e (K : Nat) : En M := ⟨83, sig, _, F K, cv, by rfl, Tryz.f83, Tryz.func83, by kernel_rfl, rfl, rets K⟩
end state_None
namespace state_State_regs
noncomputable def sig : Sig := ⟨(.agg (.cons (.ty .bool) (.cons (.ty (.slice yValue)) (.ty (.slice (.slice yI)))))), [], (.ty yI), []⟩
noncomputable def C {α : Type} (K : Nat) : CallsBy α := callsE (M := M) []
noncomputable def f (K : Nat) (a1 : List LValue) (a2 : List (List Int)) : Option (Int) := some (if (↑a2.length : Int) < (↑a1.length : Int) then (↑a2.length : Int) else (↑a1.length : Int))
noncomputable def F (K : Nat) : sig.In → Option (Int) := fun (x : ((Bool × ((List LValue) × (List (List Int)))) × Unit)) => f K x.1.2.1 x.1.2.2
noncomputable def cv : sig.In → Int → sig.Ou := fun x r => (r, ())
theorem rets (K : Nat) : ∀ x y, withCv (F K) cv x = some y → Rets M 120 sig x y := runF_retsS (C := (C K)) (LP := noLoops) (RF := noRefit) (CP := noCuts) callsE_ok mxd noRefit_ok noCuts_ok (noL (by kernel_rfl)) (lb rfl) Tryz.func120 (by kernel_rfl) fun (x : ((Bool × ((List LValue) × (List (List Int)))) × Unit)) => by
  refine Eq.trans ?_ withCv_def.symm
  unfold F f
  try simp only [el]
  kernel_rfl
noncomputable def e (K : Nat) : En M := ⟨120, sig, _, F K, cv, by rfl, Tryz.f120, Tryz.func120, by kernel_rfl, rfl, rets K⟩
end state_State_regs
namespace state_State_has
noncomputable def sig : Sig := ⟨(.cons (.agg (.cons (.ty .bool) (.cons (.ty (.slice yValue)) (.ty (.slice (.slice yI)))))) (.ty yI)), [], (.ty .bool), []⟩
noncomputable def C {α : Type} (K : Nat) : CallsBy α := callsE (M := M) [state_State_regs.e K]
noncomputable def CP {α : Type} (K : Nat) : CutBy α := (cpPut 1 (rpCut M bindC [.bool] [4] (C K) (eqBy M.P)) noCuts)
theorem CP_ok {α : Type} (K : Nat) : CutsOk (α := α) M 0 (CP K) := (cpPut_ok (rpCut_ok callsE_ok (eqBy_ok _) mxd) noCuts_ok)
noncomputable def f (K : Nat) (a0 : Bool) (a1 : List LValue) (a2 : List (List Int)) (a3 : Int) : Option (Bool) := bindC (bif a0 then bif decide (a3 ≥ (0 : Int)) then (state_State_regs.f K a1 a2).bind fun t => some (decide (a3 < t)) else some false else some false) fun t => some t
noncomputable def F (K : Nat) : sig.In → Option (Bool) := fun (x : (((Bool × ((List LValue) × (List (List Int)))) × Int) × Unit)) => f K x.1.1.1 x.1.1.2.1 x.1.1.2.2 x.1.2
noncomputable def cv : sig.In → Bool → sig.Ou := fun x r => (r, ())
theorem rets (K : Nat) : ∀ x y, withCv (F K) cv x = some y → Rets M 81 sig x y := runF_retsS (C := (C K)) (LP := noLoops) (RF := noRefit) (CP := (CP K)) callsE_ok mxd noRefit_ok (CP_ok K) (noL (by kernel_rfl)) (lb rfl) Tryz.func81 (by kernel_rfl) fun (x : (((Bool × ((List LValue) × (List (List Int)))) × Int) × Unit)) => by
  refine Eq.trans ?_ withCv_def.symm
  unfold F f
  try simp only [el]
  kernel_rfl
noncomputable def e (K : Nat) : En M := ⟨81, sig, _, F K, cv, by rfl, Tryz.f81, Tryz.func81, by kernel_rfl, rfl, rets K⟩
end state_State_has
namespace state_Set
noncomputable def sig : Sig := ⟨(.cons (.agg (.cons (.ty .bool) (.cons (.ty (.slice yValue)) (.ty (.slice (.slice yI)))))) (.cons (.ty yI) (.cons (.agg (.cons (.ty yI) (.cons (.ty .bool) (.cons (.ty yI) (.cons (.ty yI) (.cons (.ty yI) (.ty yI))))))) (.ty yI)))), [], (.agg (.cons (.ty .bool) (.cons (.ty (.slice yValue)) (.ty (.slice (.slice yI)))))), []⟩
noncomputable def C {α : Type} (K : Nat) : CallsBy α := callsE (M := M) [state_Copy_own.e K, state_State_has.e K]
noncomputable def f (K : Nat) (a0 : Bool) (a1 : List LValue) (a2 : List (List Int)) (a3 : Int) (a4 : Int) (a5 : Bool) (a6 : Int) (a7 : Int) (a8 : Int) (a9 : Int) (a10 : Int) : Option (List LValue × List (List Int)) := (state_Copy_own.f K a1 a2).bind fun t => (state_State_has.f K a0 a1 a2 a3).bind fun t_1 => bif t_1 then bif decide ((0 : Int) ≤ a3) then bif a3.toNat.blt t.1.length then t.1[a3.toNat]?.bind fun t_2 => bif decide ((0 : Int) ≤ a3) then bif a3.toNat.blt t.2.length then t.2[a3.toNat]?.bind fun t_3 => some (t.1.set a3.toNat (a4, (a5, a6), (a7, a8), a9), t.2.set a3.toNat [a10]) else none else none else none else none else some (t.1, t.2)
noncomputable def F (K : Nat) : sig.In → Option (List LValue × List (List Int)) := fun (x : (((Bool × ((List LValue) × (List (List Int)))) × (Int × ((Int × (Bool × (Int × (Int × (Int × Int))))) × Int))) × Unit)) => f K x.1.1.1 x.1.1.2.1 x.1.1.2.2 x.1.2.1 x.1.2.2.1.1 x.1.2.2.1.2.1 x.1.2.2.1.2.2.1 x.1.2.2.1.2.2.2.1 x.1.2.2.1.2.2.2.2.1 x.1.2.2.1.2.2.2.2.2 x.1.2.2.2
noncomputable def cv : sig.In → (List LValue × List (List Int)) → sig.Ou := fun x r => ((x.1.1.1, (r.1, r.2)), ())
theorem rets (K : Nat) : ∀ x y, withCv (F K) cv x = some y → Rets M 118 sig x y := runF_retsS (C := (C K)) (LP := noLoops) (RF := noRefit) (CP := noCuts) callsE_ok mxd noRefit_ok noCuts_ok (noL (by kernel_rfl)) (lb rfl) Tryz.func118 (by kernel_rfl) fun (x : (((Bool × ((List LValue) × (List (List Int)))) × (Int × ((Int × (Bool × (Int × (Int × (Int × Int))))) × Int))) × Unit)) => by
  refine Eq.trans ?_ withCv_def.symm
  unfold F f
  try simp only [el]
  kernel_rfl
noncomputable def e (K : Nat) : En M := ⟨118, sig, _, F K, cv, by rfl, Tryz.f118, Tryz.func118, by kernel_rfl, rfl, rets K⟩
end state_Set
namespace flow_Env_behind
noncomputable def sig : Sig := ⟨(.cons (.agg (.cons (.ty (.slice yI)) (.cons (.ty (.slice yFunc)) (.cons (.ty (.slice yImport)) (.cons (.ty (.slice yValue)) (.ty (.slice ySum))))))) (.cons (.agg (.cons (.ty yI) (.cons (.ty yI) (.cons (.ty yI) (.cons (.ty yI) (.cons (.ty yI) (.ty (.slice yI)))))))) (.cons (.ty yI) (.agg (.cons (.ty .bool) (.cons (.ty (.slice yValue)) (.ty (.slice (.slice yI))))))))), [], (.agg (.cons (.ty .bool) (.cons (.ty (.slice yValue)) (.ty (.slice (.slice yI)))))), []⟩
noncomputable def C {α : Type} (K : Nat) : CallsBy α := callsE (M := M) [ir_Sets.e K, flow_Env_value.e K, state_None.e K, state_Set.e K]
noncomputable def f (K : Nat) (a3 : List LValue) (a4 : List LSum) (a5 : Int) (a6 : Int) (a7 : Int) (a8 : Int) (a9 : Int) (a11 : Int) (a12 : Bool) (a13 : List LValue) (a14 : List (List Int)) : Option (Bool × List LValue × List (List Int)) := (ir_Sets.f K a5 a6).bind fun t => bif !t.2 then some (a12, a13, a14) else (flow_Env_value.f K a3 a4 a5 a7 a8 a9 a13).bind fun t_1 => bif !t_1.2.2.2.2.2.2 then state_None.f K else (state_Set.f K a12 a13 a14 t.1 t_1.1 t_1.2.1 t_1.2.2.1 t_1.2.2.2.1 t_1.2.2.2.2.1 t_1.2.2.2.2.2.1 a11).bind fun t => some (a12, t.1, t.2)
noncomputable def F (K : Nat) : sig.In → Option (Bool × List LValue × List (List Int)) := fun (x : ((((List Int) × ((List LFunc) × ((List LImport) × ((List LValue) × (List LSum))))) × ((Int × (Int × (Int × (Int × (Int × (List Int)))))) × (Int × (Bool × ((List LValue) × (List (List Int))))))) × Unit)) => f K x.1.1.2.2.2.1 x.1.1.2.2.2.2 x.1.2.1.1 x.1.2.1.2.1 x.1.2.1.2.2.1 x.1.2.1.2.2.2.1 x.1.2.1.2.2.2.2.1 x.1.2.2.1 x.1.2.2.2.1 x.1.2.2.2.2.1 x.1.2.2.2.2.2
noncomputable def cv : sig.In → (Bool × List LValue × List (List Int)) → sig.Ou := fun x r => ((r.1, (r.2.1, r.2.2)), ())
theorem rets (K : Nat) : ∀ x y, withCv (F K) cv x = some y → Rets M 78 sig x y := runF_retsS (C := (C K)) (LP := noLoops) (RF := noRefit) (CP := noCuts) callsE_ok mxd noRefit_ok noCuts_ok (noL (by kernel_rfl)) (lb rfl) Tryz.func78 (by kernel_rfl) fun (x : ((((List Int) × ((List LFunc) × ((List LImport) × ((List LValue) × (List LSum))))) × ((Int × (Int × (Int × (Int × (Int × (List Int)))))) × (Int × (Bool × ((List LValue) × (List (List Int))))))) × Unit)) => by
  refine Eq.trans ?_ withCv_def.symm
  unfold F f
  try simp only [el]
  kernel_rfl
noncomputable def e (K : Nat) : En M := ⟨78, sig, _, F K, cv, by rfl, Tryz.f78, Tryz.func78, by kernel_rfl, rfl, rets K⟩
end flow_Env_behind
namespace flow_needs
noncomputable def sig : Sig := ⟨(.cons (.agg (.cons (.ty yI) (.cons (.ty yI) (.cons (.ty yI) (.cons (.ty yI) (.cons (.ty yI) (.ty (.slice yI)))))))) (.cons (.ty yI) (.agg (.cons (.ty .bool) (.cons (.ty (.slice yValue)) (.ty (.slice (.slice yI)))))))), [], (.ty (.slice yNeed)), []⟩
noncomputable def C {α : Type} (K : Nat) : CallsBy α := callsE (M := M) []
noncomputable def l0.h : SSh := ⟨[5, 7, 30, 31, 32], (.cons (.ptr 0 0) (.cons (.ptr 1 0) (.cons (.ty (.slice yI)) (.cons (.ty yI) (.ty yI))))), [.cells 79 0 (.cons (.ty .bool) (.cons (.ty (.slice yValue)) (.ty (.slice (.slice yI))))), .cells 221 0 (.cons (.ty yI) (.cons (.ty .bool) (.cons (.ty yI) (.own 2)))), .list 68 yValue []]⟩
noncomputable def l0.x : SSh := ⟨[7], (.ptr 0 0), [.cells 221 0 (.cons (.ty yI) (.cons (.ty .bool) (.cons (.ty yI) (.own 1)))), .list 68 yValue []]⟩
noncomputable def l0.cx : l0.h.I → (List LValue) → l0.x.I := fun x r => ((), ((x.2.2.1.1, (x.2.2.1.2.1, (x.2.2.1.2.2.1, ()))), (r, ())))
noncomputable def l0.f (K : Nat) : Nat → List Int → Int → Int → List LValue → List LValue → Option (List LValue)
  | 0, _, _, _, _, _ => none
  | k + 1, a0, a1, a2, a4, a9 => bif decide (a2 < a1) then bif decide ((0 : Int) ≤ a2) && true then a0[a2.toNat]?.bind fun t => bif decide ((0 : Int) ≤ t) && true then a4[Int.toNat t]?.bind fun t => bif (a9.length + [(t.1, (t.2.1.1, t.2.1.2), (t.2.2.1.1, t.2.2.1.2), t.2.2.2)].length).ble (100000 : Nat) then l0.f K k a0 a1 (IntKind.i64.wrap (a2 + (1 : Int))) a4 (a9 ++ [(t.1, (t.2.1.1, t.2.1.2), (t.2.2.1.1, t.2.2.1.2), t.2.2.2)]) else none else none else none else some a9
noncomputable def l0.F (K : Nat) (k : Nat) : l0.h.I → Option (List LValue) := fun (x : ((Unit × (Unit × ((List Int) × (Int × Int)))) × ((Bool × ((List LValue) × (List (List Int)))) × ((Int × (Bool × (Int × Unit))) × ((List LValue) × Unit))))) => l0.f K k x.1.2.2.1 x.1.2.2.2.1 x.1.2.2.2.2 x.2.1.2.1 x.2.2.2.1
noncomputable def l0.lp {α : Type} (K : Nat) : St → Kn α → Option α := lpX 0 49 1 l0.h l0.x (l0.F K K) l0.cx
theorem l0.ok {α : Type} (K : Nat) : LoopOk (α := α) M 0 (nthLoop Tryz.f80 0) (l0.lp K) := lpX_okS (C := (C K)) (LP := noLoops) (RF := noRefit) (CP := noCuts) (L := 20) callsE_ok mxd noRefit_ok noCuts_ok (noL (by kernel_rfl)) (lb rfl) (lb rfl) (fun x => rfl) fun k (x : ((Unit × (Unit × ((List Int) × (Int × Int)))) × ((Bool × ((List LValue) × (List (List Int)))) × ((Int × (Bool × (Int × Unit))) × ((List LValue) × Unit))))) => by
  refine Eq.trans ?_ withCv_def.symm
  unfold l0.F
  rw [l0.f]
  try simp only [el]
  kernel_rfl
noncomputable def f (K : Nat) (a0 : Int) (a2 : Int) (a3 : Int) (a5 : List Int) (a6 : Int) (a8 : List LValue) : Option (List LNeed) := bif a0 == (14 : Int) then bif decide ((0 : Int) ≤ a2) && true then a8[a2.toNat]?.bind fun t => some [(a6, true, a3, [(t.1, (t.2.1.1, t.2.1.2), (t.2.2.1.1, t.2.2.1.2), t.2.2.2)])] else none else bif a0 == (17 : Int) then (l0.f K K a5 (↑a5.length : Int) (0 : Int) a8 []).bind fun t => some [(a6, false, a3, t)] else some []
noncomputable def F (K : Nat) : sig.In → Option (List LNeed) := fun (x : (((Int × (Int × (Int × (Int × (Int × (List Int)))))) × (Int × (Bool × ((List LValue) × (List (List Int)))))) × Unit)) => f K x.1.1.1 x.1.1.2.2.1 x.1.1.2.2.2.1 x.1.1.2.2.2.2.2 x.1.2.1 x.1.2.2.2.1
noncomputable def cv : sig.In → (List LNeed) → sig.Ou := fun x r => (r, ())
theorem rets (K : Nat) : ∀ x y, withCv (F K) cv x = some y → Rets M 80 sig x y := runF_retsS (C := (C K)) (LP := (lpPut 8 (l0.lp K) noLoops)) (RF := noRefit) (CP := noCuts) callsE_ok mxd noRefit_ok noCuts_ok (show LoopsOk M 0 (lpPut 8 (l0.lp K) noLoops) (loopsOf (bodyOf Tryz.f80)) from (show loopsOf (bodyOf Tryz.f80) = [nthLoop Tryz.f80 0] by kernel_rfl) ▸ (loopsOk_put (key := 8) (by kernel_rfl) (l0.ok K) noLoops_ok (by kernel_rfl))) (lb rfl) Tryz.func80 (by kernel_rfl) fun (x : (((Int × (Int × (Int × (Int × (Int × (List Int)))))) × (Int × (Bool × ((List LValue) × (List (List Int)))))) × Unit)) => by
  refine Eq.trans ?_ withCv_def.symm
  unfold F f
  try simp only [el]
  kernel_rfl
noncomputable def e (K : Nat) : En M := ⟨80, sig, _, F K, cv, by rfl, Tryz.f80, Tryz.func80, by kernel_rfl, rfl, rets K⟩
end flow_needs
namespace flow_Insn
noncomputable def sig : Sig := ⟨(.cons (.agg (.cons (.ty (.slice yI)) (.cons (.ty (.slice yFunc)) (.cons (.ty (.slice yImport)) (.cons (.ty (.slice yValue)) (.ty (.slice ySum))))))) (.cons (.ty yI) (.cons (.ty yI) (.cons (.ty yI) (.agg (.cons (.ty .bool) (.cons (.ty (.slice yValue)) (.ty (.slice (.slice yI)))))))))), [], (.cons (.agg (.cons (.ty .bool) (.cons (.ty (.slice yValue)) (.ty (.slice (.slice yI)))))) (.ty (.slice yNeed))), []⟩
noncomputable def C {α : Type} (K : Nat) : CallsBy α := callsE (M := M) [flow_Env_block.e K, state_Copy.e K, ir_Site.e K, flow_Env_behind.e K, flow_needs.e K]
noncomputable def CP {α : Type} (K : Nat) : CutBy α := (cpPut 2 (rpCut M bindC [.bool] [38] (C K) (eqBy M.P)) noCuts)
theorem CP_ok {α : Type} (K : Nat) : CutsOk (α := α) M 0 (CP K) := (cpPut_ok (rpCut_ok callsE_ok (eqBy_ok _) mxd) noCuts_ok)
noncomputable def f (K : Nat) (a1 : List LFunc) (a3 : List LValue) (a4 : List LSum) (a5 : Int) (a6 : Int) (a7 : Int) (a8 : Bool) (a9 : List LValue) (a10 : List (List Int)) : Option (Bool × List LValue × List (List Int) × List LNeed) := (flow_Env_block.f K a1 a5 a6).bind fun t => bindC (bif !a8 then some true else bif !t.2.2.2.2.2 then some true else bif decide (a7 < (0 : Int)) then some true else some (decide (a7 ≥ (↑t.1.length : Int)))) fun t_1 => bif t_1 then (state_Copy.f K a9 a10).bind fun t => some (a8, t.1, t.2, []) else bif decide ((0 : Int) ≤ a7) && true then t.1[a7.toNat]?.bind fun t_2 => (ir_Site.f K a1 a5 a6 a7).bind fun t_3 => (state_Copy.f K a9 a10).bind fun t_4 => (flow_Env_behind.f K a3 a4 t_2.1 t_2.2.1 t_2.2.2.1 t_2.2.2.2.1 t_2.2.2.2.2.1 t_3 a8 t_4.1 t_4.2).bind fun t_5 => bif decide ((0 : Int) ≤ a7) && true then t.1[a7.toNat]?.bind fun t => (flow_needs.f K t.1 t.2.2.1 t.2.2.2.1 t.2.2.2.2.2 a7 a9).bind fun t => some (t_5.1, t_5.2.1, t_5.2.2, t) else none else none
noncomputable def F (K : Nat) : sig.In → Option (Bool × List LValue × List (List Int) × List LNeed) := fun (x : ((((List Int) × ((List LFunc) × ((List LImport) × ((List LValue) × (List LSum))))) × (Int × (Int × (Int × (Bool × ((List LValue) × (List (List Int)))))))) × Unit)) => f K x.1.1.2.1 x.1.1.2.2.2.1 x.1.1.2.2.2.2 x.1.2.1 x.1.2.2.1 x.1.2.2.2.1 x.1.2.2.2.2.1 x.1.2.2.2.2.2.1 x.1.2.2.2.2.2.2
noncomputable def cv : sig.In → (Bool × List LValue × List (List Int) × List LNeed) → sig.Ou := fun x r => (((r.1, (r.2.1, r.2.2.1)), r.2.2.2), ())
theorem rets (K : Nat) : ∀ x y, withCv (F K) cv x = some y → Rets M 29 sig x y := runF_retsS (C := (C K)) (LP := noLoops) (RF := noRefit) (CP := (CP K)) callsE_ok mxd noRefit_ok (CP_ok K) (noL (by kernel_rfl)) (lb rfl) Tryz.func29 (by kernel_rfl) fun (x : ((((List Int) × ((List LFunc) × ((List LImport) × ((List LValue) × (List LSum))))) × (Int × (Int × (Int × (Bool × ((List LValue) × (List (List Int)))))))) × Unit)) => by
  refine Eq.trans ?_ withCv_def.symm
  unfold F f
  try simp only [el]
  kernel_rfl
noncomputable def e (K : Nat) : En M := ⟨29, sig, _, F K, cv, by rfl, Tryz.f29, Tryz.func29, by kernel_rfl, rfl, rets K⟩
end flow_Insn
namespace known_Has
noncomputable def sig : Sig := ⟨(.cons (.agg (.cons (.ty .bool) (.ty yI))) (.ty yI)), [], (.ty .bool), []⟩
noncomputable def C {α : Type} (K : Nat) : CallsBy α := callsE (M := M) []
noncomputable def CP {α : Type} (K : Nat) : CutBy α := (cpPut 1 (rpCut M bindC [.bool] [4] (C K) (eqBy M.P)) noCuts)
theorem CP_ok {α : Type} (K : Nat) : CutsOk (α := α) M 0 (CP K) := (cpPut_ok (rpCut_ok callsE_ok (eqBy_ok _) mxd) noCuts_ok)
noncomputable def f (K : Nat) (a0 : Bool) (a1 : Int) (a2 : Int) : Option (Bool) := bindC (bif !a0 then some true else some (a1 == a2)) fun t => some t
noncomputable def F (K : Nat) : sig.In → Option (Bool) := fun (x : (((Bool × Int) × Int) × Unit)) => f K x.1.1.1 x.1.1.2 x.1.2
noncomputable def cv : sig.In → Bool → sig.Ou := fun x r => (r, ())
theorem rets (K : Nat) : ∀ x y, withCv (F K) cv x = some y → Rets M 127 sig x y := runF_retsS (C := (C K)) (LP := noLoops) (RF := noRefit) (CP := (CP K)) callsE_ok mxd noRefit_ok (CP_ok K) (noL (by kernel_rfl)) (lb rfl) Tryz.func127 (by kernel_rfl) fun (x : (((Bool × Int) × Int) × Unit)) => by
  refine Eq.trans ?_ withCv_def.symm
  unfold F f
  try simp only [el]
  kernel_rfl
noncomputable def e (K : Nat) : En M := ⟨127, sig, _, F K, cv, by rfl, Tryz.f127, Tryz.func127, by kernel_rfl, rfl, rets K⟩
end known_Has
namespace known_Branch
noncomputable def sig : Sig := ⟨(.cons (.agg (.cons (.ty .bool) (.ty yI))) (.ty .bool)), [], (.cons (.agg (.cons (.ty .bool) (.ty yI))) (.ty .bool)), []⟩
noncomputable def C {α : Type} (K : Nat) : CallsBy α := callsE (M := M) [known_Known_is.e K, known_Known_tidy.e K, known_Has.e K, known_Of.e K, known_Any.e K]
noncomputable def CP {α : Type} (K : Nat) : CutBy α := (cpPut 1 (rpCut M bindC [.bool] [6] (C K) (eqBy M.P)) (cpPut 3 (rpCut M bindC [.bool] [15] (C K) (eqBy M.P)) noCuts))
theorem CP_ok {α : Type} (K : Nat) : CutsOk (α := α) M 0 (CP K) := (cpPut_ok (rpCut_ok callsE_ok (eqBy_ok _) mxd) (cpPut_ok (rpCut_ok callsE_ok (eqBy_ok _) mxd) noCuts_ok))
noncomputable def f (K : Nat) (a0 : Bool) (a1 : Int) (a2 : Bool) : Option (Bool × Int × Bool) := bindC (bif a2 then (known_Known_is.f K a0 a1 (0 : Int)).bind fun t => some !t else some false) fun t => bif t then (known_Known_tidy.f K a0 a1).bind fun t => some (a0, t, true) else bindC (bif !a2 then (known_Has.f K a0 a1 (0 : Int)).bind fun t => some t else some false) fun t => bif t then (known_Of.f K).bind fun t => some (t, (0 : Int), true) else (known_Any.f K).bind fun t => some (t.1, t.2, false)
noncomputable def F (K : Nat) : sig.In → Option (Bool × Int × Bool) := fun (x : (((Bool × Int) × Bool) × Unit)) => f K x.1.1.1 x.1.1.2 x.1.2
noncomputable def cv : sig.In → (Bool × Int × Bool) → sig.Ou := fun x r => (((r.1, r.2.1), r.2.2), ())
theorem rets (K : Nat) : ∀ x y, withCv (F K) cv x = some y → Rets M 121 sig x y := runF_retsS (C := (C K)) (LP := noLoops) (RF := noRefit) (CP := (CP K)) callsE_ok mxd noRefit_ok (CP_ok K) (noL (by kernel_rfl)) (lb rfl) Tryz.func121 (by kernel_rfl) fun (x : (((Bool × Int) × Bool) × Unit)) => by
  refine Eq.trans ?_ withCv_def.symm
  unfold F f
  try simp only [el]
  kernel_rfl
noncomputable def e (K : Nat) : En M := ⟨121, sig, _, F K, cv, by rfl, Tryz.f121, Tryz.func121, by kernel_rfl, rfl, rets K⟩
end known_Branch
namespace span_Branch
noncomputable def sig : Sig := ⟨(.cons (.agg (.cons (.ty yI) (.ty yI))) (.ty .bool)), [], (.cons (.agg (.cons (.ty yI) (.ty yI))) (.ty .bool)), []⟩
noncomputable def C {α : Type} (K : Nat) : CallsBy α := callsE (M := M) [span_Has.e K, span_Of.e K]
noncomputable def f (K : Nat) (a0 : Int) (a1 : Int) (a2 : Bool) : Option (Int × Int × Bool) := bif !a2 then (span_Has.f K a0 a1 (0 : Int)).bind fun t => some ((0 : Int), (0 : Int), t) else (span_Of.f K).bind fun t => bif bif false then !(a0 == (0 : Int) && a1 == (0 : Int)) else a0 == (0 : Int) && a1 == (0 : Int) then some ((0 : Int), (0 : Int), false) else bif a0 == (0 : Int) then some ((1 : Int), a1, true) else bif a1 == (0 : Int) then some (a0, (-1 : Int), true) else some (a0, a1, true)
noncomputable def F (K : Nat) : sig.In → Option (Int × Int × Bool) := fun (x : (((Int × Int) × Bool) × Unit)) => f K x.1.1.1 x.1.1.2 x.1.2
noncomputable def cv : sig.In → (Int × Int × Bool) → sig.Ou := fun x r => (((r.1, r.2.1), r.2.2), ())
theorem rets (K : Nat) : ∀ x y, withCv (F K) cv x = some y → Rets M 122 sig x y := runF_retsS (C := (C K)) (LP := noLoops) (RF := noRefit) (CP := noCuts) callsE_ok mxd noRefit_ok noCuts_ok (noL (by kernel_rfl)) (lb rfl) Tryz.func122 (by kernel_rfl) fun (x : (((Int × Int) × Bool) × Unit)) => by
  refine Eq.trans ?_ withCv_def.symm
  unfold F f
  try simp only [el]
  kernel_rfl
noncomputable def e (K : Nat) : En M := ⟨122, sig, _, F K, cv, by rfl, Tryz.f122, Tryz.func122, by kernel_rfl, rfl, rets K⟩
end span_Branch
namespace sign_Branch
noncomputable def sig : Sig := ⟨(.cons (.ty yI) (.ty .bool)), [], (.ty yI), []⟩
noncomputable def C {α : Type} (K : Nat) : CallsBy α := callsE (M := M) []
noncomputable def f (K : Nat) (a0 : Int) (a1 : Bool) : Option (Int) := bif a1 then some (IntKind.i64.wrap (↑(BitVec.ofInt (64 : Nat) a0 &&& BitVec.ofInt (64 : Nat) (5 : Int)).toNat : Int)) else some (IntKind.i64.wrap (↑(BitVec.ofInt (64 : Nat) a0 &&& BitVec.ofInt (64 : Nat) (2 : Int)).toNat : Int))
noncomputable def F (K : Nat) : sig.In → Option (Int) := fun (x : ((Int × Bool) × Unit)) => f K x.1.1 x.1.2
noncomputable def cv : sig.In → Int → sig.Ou := fun x r => (r, ())
theorem rets (K : Nat) : ∀ x y, withCv (F K) cv x = some y → Rets M 124 sig x y := runF_retsS (C := (C K)) (LP := noLoops) (RF := noRefit) (CP := noCuts) callsE_ok mxd noRefit_ok noCuts_ok (noL (by kernel_rfl)) (lb rfl) Tryz.func124 (by kernel_rfl) fun (x : ((Int × Bool) × Unit)) => by
  refine Eq.trans ?_ withCv_def.symm
  unfold F f
  try simp only [el]
  kernel_rfl
noncomputable def e (K : Nat) : En M := ⟨124, sig, _, F K, cv, by rfl, Tryz.f124, Tryz.func124, by kernel_rfl, rfl, rets K⟩
end sign_Branch
namespace parity_Branch
noncomputable def sig : Sig := ⟨(.cons (.ty yI) (.ty .bool)), [], (.ty yI), []⟩
noncomputable def C {α : Type} (K : Nat) : CallsBy α := callsE (M := M) []
noncomputable def f (K : Nat) (a0 : Int) (a1 : Bool) : Option (Int) := bif a1 then some (IntKind.i64.wrap (↑(BitVec.ofInt (64 : Nat) a0 &&& BitVec.ofInt (64 : Nat) (3 : Int)).toNat : Int)) else some (IntKind.i64.wrap (↑(BitVec.ofInt (64 : Nat) a0 &&& BitVec.ofInt (64 : Nat) (1 : Int)).toNat : Int))
noncomputable def F (K : Nat) : sig.In → Option (Int) := fun (x : ((Int × Bool) × Unit)) => f K x.1.1 x.1.2
noncomputable def cv : sig.In → Int → sig.Ou := fun x r => (r, ())
theorem rets (K : Nat) : ∀ x y, withCv (F K) cv x = some y → Rets M 125 sig x y := runF_retsS (C := (C K)) (LP := noLoops) (RF := noRefit) (CP := noCuts) callsE_ok mxd noRefit_ok noCuts_ok (noL (by kernel_rfl)) (lb rfl) Tryz.func125 (by kernel_rfl) fun (x : ((Int × Bool) × Unit)) => by
  refine Eq.trans ?_ withCv_def.symm
  unfold F f
  try simp only [el]
  kernel_rfl
noncomputable def e (K : Nat) : En M := ⟨125, sig, _, F K, cv, by rfl, Tryz.f125, Tryz.func125, by kernel_rfl, rfl, rets K⟩
end parity_Branch
namespace fact_Branch
noncomputable def sig : Sig := ⟨(.cons (.agg (.cons (.ty yI) (.cons (.ty .bool) (.cons (.ty yI) (.cons (.ty yI) (.cons (.ty yI) (.ty yI))))))) (.ty .bool)), [], (.cons (.agg (.cons (.ty yI) (.cons (.ty .bool) (.cons (.ty yI) (.cons (.ty yI) (.cons (.ty yI) (.ty yI))))))) (.ty .bool)), []⟩
noncomputable def C {α : Type} (K : Nat) : CallsBy α := callsE (M := M) [known_Branch.e K, span_Branch.e K, sign_Branch.e K, parity_Branch.e K, fact_whole.e K]
noncomputable def f (K : Nat) (a0 : Int) (a1 : Bool) (a2 : Int) (a3 : Int) (a4 : Int) (a5 : Int) (a6 : Bool) : Option (Int × Bool × Int × Int × Int × Int × Bool) := (known_Branch.f K a1 a2 a6).bind fun t => (span_Branch.f K a3 a4 a6).bind fun t_1 => (sign_Branch.f K a0 a6).bind fun t_2 => (parity_Branch.f K a5 a6).bind fun t_3 => fact_whole.f K t_2 t.1 t.2.1 t.2.2 t_1.1 t_1.2.1 t_1.2.2 t_3
noncomputable def F (K : Nat) : sig.In → Option (Int × Bool × Int × Int × Int × Int × Bool) := fun (x : (((Int × (Bool × (Int × (Int × (Int × Int))))) × Bool) × Unit)) => f K x.1.1.1 x.1.1.2.1 x.1.1.2.2.1 x.1.1.2.2.2.1 x.1.1.2.2.2.2.1 x.1.1.2.2.2.2.2 x.1.2
noncomputable def cv : sig.In → (Int × Bool × Int × Int × Int × Int × Bool) → sig.Ou := fun x r => (((r.1, (r.2.1, (r.2.2.1, (r.2.2.2.1, (r.2.2.2.2.1, r.2.2.2.2.2.1))))), r.2.2.2.2.2.2), ())
theorem rets (K : Nat) : ∀ x y, withCv (F K) cv x = some y → Rets M 82 sig x y := runF_retsS (C := (C K)) (LP := noLoops) (RF := noRefit) (CP := noCuts) callsE_ok mxd noRefit_ok noCuts_ok (noL (by kernel_rfl)) (lb rfl) Tryz.func82 (by kernel_rfl) fun (x : (((Int × (Bool × (Int × (Int × (Int × Int))))) × Bool) × Unit)) => by
  refine Eq.trans ?_ withCv_def.symm
  unfold F f
  try simp only [el]
  kernel_rfl
noncomputable def e (K : Nat) : En M := ⟨82, sig, _, F K, cv, by rfl, Tryz.f82, Tryz.func82, by kernel_rfl, rfl, rets K⟩
end fact_Branch
namespace state_Branch
noncomputable def sig : Sig := ⟨(.cons (.agg (.cons (.ty .bool) (.cons (.ty (.slice yValue)) (.ty (.slice (.slice yI)))))) (.cons (.ty yI) (.ty .bool))), [], (.agg (.cons (.ty .bool) (.cons (.ty (.slice yValue)) (.ty (.slice (.slice yI)))))), []⟩
noncomputable def C {α : Type} (K : Nat) : CallsBy α := callsE (M := M) [state_Copy_own.e K, state_State_has.e K, fact_Branch.e K, state_None.e K]
noncomputable def f (K : Nat) (a0 : Bool) (a1 : List LValue) (a2 : List (List Int)) (a3 : Int) (a4 : Bool) : Option (Bool × List LValue × List (List Int)) := (state_Copy_own.f K a1 a2).bind fun t => (state_State_has.f K a0 a1 a2 a3).bind fun t_1 => bif !t_1 then some (a0, t.1, t.2) else bif decide ((0 : Int) ≤ a3) && true then a1[a3.toNat]?.bind fun t_2 => (fact_Branch.f K t_2.1 t_2.2.1.1 t_2.2.1.2 t_2.2.2.1.1 t_2.2.2.1.2 t_2.2.2.2 a4).bind fun t_3 => bif !t_3.2.2.2.2.2.2 then state_None.f K else bif decide ((0 : Int) ≤ a3) then bif a3.toNat.blt t.1.length then t.1[a3.toNat]?.bind fun t_4 => some (a0, t.1.set a3.toNat (t_3.1, (t_3.2.1, t_3.2.2.1), (t_3.2.2.2.1, t_3.2.2.2.2.1), t_3.2.2.2.2.2.1), t.2) else none else none else none
noncomputable def F (K : Nat) : sig.In → Option (Bool × List LValue × List (List Int)) := fun (x : (((Bool × ((List LValue) × (List (List Int)))) × (Int × Bool)) × Unit)) => f K x.1.1.1 x.1.1.2.1 x.1.1.2.2 x.1.2.1 x.1.2.2
noncomputable def cv : sig.In → (Bool × List LValue × List (List Int)) → sig.Ou := fun x r => ((r.1, (r.2.1, r.2.2)), ())
theorem rets (K : Nat) : ∀ x y, withCv (F K) cv x = some y → Rets M 30 sig x y := runF_retsS (C := (C K)) (LP := noLoops) (RF := noRefit) (CP := noCuts) callsE_ok mxd noRefit_ok noCuts_ok (noL (by kernel_rfl)) (lb rfl) Tryz.func30 (by kernel_rfl) fun (x : (((Bool × ((List LValue) × (List (List Int)))) × (Int × Bool)) × Unit)) => by
  refine Eq.trans ?_ withCv_def.symm
  unfold F f
  try simp only [el]
  kernel_rfl
noncomputable def e (K : Nat) : En M := ⟨30, sig, _, F K, cv, by rfl, Tryz.f30, Tryz.func30, by kernel_rfl, rfl, rets K⟩
end state_Branch
namespace sign_Has
noncomputable def sig : Sig := ⟨(.cons (.ty yI) (.ty yI)), [], (.ty .bool), []⟩
noncomputable def C {α : Type} (K : Nat) : CallsBy α := callsE (M := M) [sign_Of.e K]
noncomputable def f (K : Nat) (a0 : Int) (a1 : Int) : Option (Bool) := (sign_Of.f K a1).bind fun t => some (IntKind.i64.wrap (↑(BitVec.ofInt (64 : Nat) a0 &&& BitVec.ofInt (64 : Nat) t).toNat : Int) != (0 : Int))
noncomputable def F (K : Nat) : sig.In → Option (Bool) := fun x => f K x.1.1 x.1.2
noncomputable def cv : sig.In → Bool → sig.Ou := fun x r => (r, ())
theorem rets (K : Nat) : ∀ x y, withCv (F K) cv x = some y → Rets M 126 sig x y := runF_retsS (C := (C K)) (LP := noLoops) (RF := noRefit) (CP := noCuts) callsE_ok mxd noRefit_ok noCuts_ok (noL (by kernel_rfl)) (lb rfl) Tryz.func126 (by kernel_rfl) fun x => by
  rw [withCv_def]
  unfold F f
  try simp only [el]
  kernel_rfl
noncomputable def e (K : Nat) : En M := ⟨126, sig, _, F K, cv, by rfl, Tryz.f126, Tryz.func126, by kernel_rfl, rfl, rets K⟩
end sign_Has
namespace parity_Has
noncomputable def sig : Sig := ⟨(.cons (.ty yI) (.ty yI)), [], (.ty .bool), []⟩
noncomputable def C {α : Type} (K : Nat) : CallsBy α := callsE (M := M) [parity_Of.e K]
noncomputable def f (K : Nat) (a0 : Int) (a1 : Int) : Option (Bool) := (parity_Of.f K a1).bind fun t => some (IntKind.i64.wrap (↑(BitVec.ofInt (64 : Nat) a0 &&& BitVec.ofInt (64 : Nat) t).toNat : Int) != (0 : Int))
noncomputable def F (K : Nat) : sig.In → Option (Bool) := fun x => f K x.1.1 x.1.2
noncomputable def cv : sig.In → Bool → sig.Ou := fun x r => (r, ())
theorem rets (K : Nat) : ∀ x y, withCv (F K) cv x = some y → Rets M 129 sig x y := runF_retsS (C := (C K)) (LP := noLoops) (RF := noRefit) (CP := noCuts) callsE_ok mxd noRefit_ok noCuts_ok (noL (by kernel_rfl)) (lb rfl) Tryz.func129 (by kernel_rfl) fun x => by
  rw [withCv_def]
  unfold F f
  try simp only [el]
  kernel_rfl
noncomputable def e (K : Nat) : En M := ⟨129, sig, _, F K, cv, by rfl, Tryz.f129, Tryz.func129, by kernel_rfl, rfl, rets K⟩
end parity_Has
namespace fact_Has
noncomputable def sig : Sig := ⟨(.cons (.agg (.cons (.ty yI) (.cons (.ty .bool) (.cons (.ty yI) (.cons (.ty yI) (.cons (.ty yI) (.ty yI))))))) (.ty yI)), [], (.ty .bool), []⟩
noncomputable def C {α : Type} (K : Nat) : CallsBy α := callsE (M := M) [sign_Has.e K, known_Has.e K, span_Has.e K, parity_Has.e K]
noncomputable def CP {α : Type} (K : Nat) : CutBy α := (cpPut 1 (rpCut M bindC [.bool] [4] (C K) (eqBy M.P)) noCuts)
theorem CP_ok {α : Type} (K : Nat) : CutsOk (α := α) M 0 (CP K) := (cpPut_ok (rpCut_ok callsE_ok (eqBy_ok _) mxd) noCuts_ok)
noncomputable def f (K : Nat) (a0 : Int) (a1 : Bool) (a2 : Int) (a3 : Int) (a4 : Int) (a5 : Int) (a6 : Int) : Option (Bool) := bindC ((sign_Has.f K a0 a6).bind fun t => bif t then (known_Has.f K a1 a2 a6).bind fun t => bif t then (span_Has.f K a3 a4 a6).bind fun t => bif t then (parity_Has.f K a5 a6).bind fun t => some t else some false else some false else some false) fun t => some t
noncomputable def F (K : Nat) : sig.In → Option (Bool) := fun (x : (((Int × (Bool × (Int × (Int × (Int × Int))))) × Int) × Unit)) => f K x.1.1.1 x.1.1.2.1 x.1.1.2.2.1 x.1.1.2.2.2.1 x.1.1.2.2.2.2.1 x.1.1.2.2.2.2.2 x.1.2
noncomputable def cv : sig.In → Bool → sig.Ou := fun x r => (r, ())
theorem rets (K : Nat) : ∀ x y, withCv (F K) cv x = some y → Rets M 84 sig x y := runF_retsS (C := (C K)) (LP := noLoops) (RF := noRefit) (CP := (CP K)) callsE_ok mxd noRefit_ok (CP_ok K) (noL (by kernel_rfl)) (lb rfl) Tryz.func84 (by kernel_rfl) fun (x : (((Int × (Bool × (Int × (Int × (Int × Int))))) × Int) × Unit)) => by
  refine Eq.trans ?_ withCv_def.symm
  unfold F f
  try simp only [el]
  kernel_rfl
noncomputable def e (K : Nat) : En M := ⟨84, sig, _, F K, cv, by rfl, Tryz.f84, Tryz.func84, by kernel_rfl, rfl, rets K⟩
end fact_Has
namespace cmp_isNaN_int
noncomputable def sig : Sig := ⟨(.ty yI), [], (.ty .bool), []⟩
noncomputable def C {α : Type} (K : Nat) : CallsBy α := callsE (M := M) []
noncomputable def f (K : Nat) (a0 : Int) : Option (Bool) := some (a0 != a0)
noncomputable def F (K : Nat) : sig.In → Option (Bool) := fun x => f K x.1
noncomputable def cv : sig.In → Bool → sig.Ou := fun x r => (r, ())
theorem rets (K : Nat) : ∀ x y, withCv (F K) cv x = some y → Rets M 179 sig x y := runF_retsS (C := (C K)) (LP := noLoops) (RF := noRefit) (CP := noCuts) callsE_ok mxd noRefit_ok noCuts_ok (noL (by kernel_rfl)) (lb rfl) Tryz.func179 (by kernel_rfl) fun x => by
  rw [withCv_def]
  unfold F f
  try simp only [el]
  kernel_rfl
noncomputable def e (K : Nat) : En M := ⟨179, sig, _, F K, cv, by rfl, Tryz.f179, Tryz.func179, by kernel_rfl, rfl, rets K⟩
end cmp_isNaN_int
namespace cmp_Less_int
noncomputable def sig : Sig := ⟨(.cons (.ty yI) (.ty yI)), [], (.ty .bool), []⟩
noncomputable def C {α : Type} (K : Nat) : CallsBy α := callsE (M := M) [cmp_isNaN_int.e K]
noncomputable def CP {α : Type} (K : Nat) : CutBy α := (cpPut 1 (rpCut M bindC [.bool] [4] (C K) (eqBy M.P)) noCuts)
theorem CP_ok {α : Type} (K : Nat) : CutsOk (α := α) M 0 (CP K) := (cpPut_ok (rpCut_ok callsE_ok (eqBy_ok _) mxd) noCuts_ok)
noncomputable def f (K : Nat) (a0 : Int) (a1 : Int) : Option (Bool) := bindC ((cmp_isNaN_int.f K a0).bind fun t => bif t then (cmp_isNaN_int.f K a1).bind fun t => bif !t then some true else some (decide (a0 < a1)) else some (decide (a0 < a1))) fun t => some t
noncomputable def F (K : Nat) : sig.In → Option (Bool) := fun x => f K x.1.1 x.1.2
noncomputable def cv : sig.In → Bool → sig.Ou := fun x r => (r, ())
theorem rets (K : Nat) : ∀ x y, withCv (F K) cv x = some y → Rets M 152 sig x y := runF_retsS (C := (C K)) (LP := noLoops) (RF := noRefit) (CP := (CP K)) callsE_ok mxd noRefit_ok (CP_ok K) (noL (by kernel_rfl)) (lb rfl) Tryz.func152 (by kernel_rfl) fun x => by
  rw [withCv_def]
  unfold F f
  try simp only [el]
  kernel_rfl
noncomputable def e (K : Nat) : En M := ⟨152, sig, _, F K, cv, by rfl, Tryz.f152, Tryz.func152, by kernel_rfl, rfl, rets K⟩
end cmp_Less_int
namespace slices_isNaN_int
noncomputable def sig : Sig := ⟨(.ty yI), [], (.ty .bool), []⟩
noncomputable def C {α : Type} (K : Nat) : CallsBy α := callsE (M := M) []
noncomputable def f (K : Nat) (a0 : Int) : Option (Bool) := some (a0 != a0)
noncomputable def F (K : Nat) : sig.In → Option (Bool) := fun x => f K x.1
noncomputable def cv : sig.In → Bool → sig.Ou := fun x r => (r, ())
theorem rets (K : Nat) : ∀ x y, withCv (F K) cv x = some y → Rets M 153 sig x y := runF_retsS (C := (C K)) (LP := noLoops) (RF := noRefit) (CP := noCuts) callsE_ok mxd noRefit_ok noCuts_ok (noL (by kernel_rfl)) (lb rfl) Tryz.func153 (by kernel_rfl) fun x => by
  rw [withCv_def]
  unfold F f
  try simp only [el]
  kernel_rfl
noncomputable def e (K : Nat) : En M := ⟨153, sig, _, F K, cv, by rfl, Tryz.f153, Tryz.func153, by kernel_rfl, rfl, rets K⟩
end slices_isNaN_int
namespace slices_BinarySearch_int_int
noncomputable def sig : Sig := ⟨(.cons (.ty (.slice yI)) (.ty yI)), [], (.cons (.ty yI) (.ty .bool)), []⟩
noncomputable def C {α : Type} (K : Nat) : CallsBy α := callsE (M := M) [cmp_Less_int.e K, slices_isNaN_int.e K]
noncomputable def CP {α : Type} (K : Nat) : CutBy α := (cpPut 8 (rpCut M bindC [yI, .bool] [4, 5] (C K) (eqBy M.P)) noCuts)
theorem CP_ok {α : Type} (K : Nat) : CutsOk (α := α) M 0 (CP K) := (cpPut_ok (rpCut_ok callsE_ok (eqBy_ok _) mxd) noCuts_ok)
noncomputable def l0.h : SSh := ⟨[0, 1, 6, 7, 8], (.cons (.ty (.slice yI)) (.cons (.ty yI) (.cons (.ty yI) (.cons (.ty yI) (.ty yI))))), []⟩
noncomputable def l0.x : SSh := ⟨[0, 1, 6, 7], (.cons (.ty (.slice yI)) (.cons (.ty yI) (.cons (.ty yI) (.ty yI)))), []⟩
noncomputable def l0.cx : l0.h.I → Int → l0.x.I := fun x r => ((x.1.1, (x.1.2.1, (x.1.2.2.1, r))), ())
noncomputable def l0.f (K : Nat) : Nat → List Int → Int → Int → Int → Option (Int)
  | 0, _, _, _, _ => none
  | k + 1, a0, a1, a3, a4 => bif decide (a3 < a4) then bif decide ((0 : Int) ≤ IntKind.i64.wrap ((IntKind.u64.wrap (IntKind.i64.wrap (a3 + a4))).fdiv ((2 : Int) ^ (1 : Nat)))) && true then a0[(IntKind.i64.wrap ((IntKind.u64.wrap (IntKind.i64.wrap (a3 + a4))).fdiv ((2 : Int) ^ (1 : Nat)))).toNat]?.bind fun t => (cmp_Less_int.f K t a1).bind fun t => bif t then l0.f K k a0 a1 (IntKind.i64.wrap (IntKind.i64.wrap ((IntKind.u64.wrap (IntKind.i64.wrap (a3 + a4))).fdiv ((2 : Int) ^ (1 : Nat))) + (1 : Int))) a4 else l0.f K k a0 a1 a3 (IntKind.i64.wrap ((IntKind.u64.wrap (IntKind.i64.wrap (a3 + a4))).fdiv ((2 : Int) ^ (1 : Nat)))) else none else some a3
noncomputable def l0.F (K : Nat) (k : Nat) : l0.h.I → Option (Int) := fun x => l0.f K k x.1.1 x.1.2.1 x.1.2.2.2.1 x.1.2.2.2.2
noncomputable def l0.lp {α : Type} (K : Nat) : St → Kn α → Option α := lpX 0 54 0 l0.h l0.x (l0.F K K) l0.cx
theorem l0.ok {α : Type} (K : Nat) : LoopOk (α := α) M 0 (nthLoop Tryz.f106 0) (l0.lp K) := lpX_okS (C := (C K)) (LP := noLoops) (RF := noRefit) (CP := (CP K)) (L := 20) callsE_ok mxd noRefit_ok (CP_ok K) (noL (by kernel_rfl)) (lb rfl) (lb rfl) (fun x => rfl) fun k x => by
  rw [withCv_def]
  unfold l0.F
  rw [l0.f]
  try simp only [el]
  kernel_rfl
noncomputable def f (K : Nat) (a0 : List Int) (a1 : Int) : Option (Int × Bool) := (l0.f K K a0 a1 (0 : Int) (↑a0.length : Int)).bind fun t => bindC (bif decide (t < (↑a0.length : Int)) then bif decide ((0 : Int) ≤ t) && true then a0[t.toNat]?.bind fun t_1 => bif t_1 == a1 then some (t, true) else bif decide ((0 : Int) ≤ t) && true then a0[t.toNat]?.bind fun t_2 => (slices_isNaN_int.f K t_2).bind fun t_3 => bif t_3 then (slices_isNaN_int.f K a1).bind fun t_4 => some (t, t_4) else some (t, false) else none else none else some (t, false)) fun t => some (t.1, t.2)
noncomputable def F (K : Nat) : sig.In → Option (Int × Bool) := fun x => f K x.1.1 x.1.2
noncomputable def cv : sig.In → (Int × Bool) → sig.Ou := fun x r => ((r.1, r.2), ())
theorem rets (K : Nat) : ∀ x y, withCv (F K) cv x = some y → Rets M 106 sig x y := runF_retsS (C := (C K)) (LP := (lpPut 3 (l0.lp K) noLoops)) (RF := noRefit) (CP := (CP K)) callsE_ok mxd noRefit_ok (CP_ok K) (show LoopsOk M 0 (lpPut 3 (l0.lp K) noLoops) (loopsOf (bodyOf Tryz.f106)) from (show loopsOf (bodyOf Tryz.f106) = [nthLoop Tryz.f106 0] by kernel_rfl) ▸ (loopsOk_put (key := 3) (by kernel_rfl) (l0.ok K) noLoops_ok (by kernel_rfl))) (lb rfl) Tryz.func106 (by kernel_rfl) fun x => by
  rw [withCv_def]
  unfold F f
  try simp only [el]
  kernel_rfl
noncomputable def e (K : Nat) : En M := ⟨106, sig, _, F K, cv, by rfl, Tryz.f106, Tryz.func106, by kernel_rfl, rfl, rets K⟩
end slices_BinarySearch_int_int
namespace bits_Has
noncomputable def sig : Sig := ⟨(.cons (.ty (.slice yI)) (.ty yI)), [], (.ty .bool), []⟩
noncomputable def C {α : Type} (K : Nat) : CallsBy α := callsE (M := M) [slices_BinarySearch_int_int.e K]
noncomputable def f (K : Nat) (a0 : List Int) (a1 : Int) : Option (Bool) := (slices_BinarySearch_int_int.f K a0 a1).bind fun t => some t.2
noncomputable def F (K : Nat) : sig.In → Option (Bool) := fun x => f K x.1.1 x.1.2
noncomputable def cv : sig.In → Bool → sig.Ou := fun x r => (r, ())
theorem rets (K : Nat) : ∀ x y, withCv (F K) cv x = some y → Rets M 53 sig x y := runF_retsS (C := (C K)) (LP := noLoops) (RF := noRefit) (CP := noCuts) callsE_ok mxd noRefit_ok noCuts_ok (noL (by kernel_rfl)) (lb rfl) Tryz.func53 (by kernel_rfl) fun x => by
  rw [withCv_def]
  unfold F f
  try simp only [el]
  kernel_rfl
noncomputable def e (K : Nat) : En M := ⟨53, sig, _, F K, cv, by rfl, Tryz.f53, Tryz.func53, by kernel_rfl, rfl, rets K⟩
end bits_Has
namespace state_Has
noncomputable def sig : Sig := ⟨(.cons (.agg (.cons (.ty .bool) (.cons (.ty (.slice yValue)) (.ty (.slice (.slice yI)))))) (.cons (.ty (.slice yI)) (.ty (.slice yI)))), [], (.ty .bool), []⟩
noncomputable def C {α : Type} (K : Nat) : CallsBy α := callsE (M := M) [fact_Has.e K, bits_Has.e K]
noncomputable def CP {α : Type} (K : Nat) : CutBy α := (cpPut 1 (rpCut M bindC [.bool] [29] (C K) (eqBy M.P)) noCuts)
theorem CP_ok {α : Type} (K : Nat) : CutsOk (α := α) M 0 (CP K) := (cpPut_ok (rpCut_ok callsE_ok (eqBy_ok _) mxd) noCuts_ok)
noncomputable def l1.h : SSh := ⟨[3, 46, 47, 48], (.cons (.ptr 0 0) (.cons (.ty (.slice yI)) (.cons (.ty yI) (.ty yI)))), [.cells 79 0 (.cons (.ty .bool) (.cons (.ty (.slice yValue)) (.ty (.slice (.slice yI)))))]⟩
noncomputable def l1.x : SSh := ⟨[], .unit, []⟩
noncomputable def l1.r : SSh := ⟨[6], (.ty .bool), []⟩
noncomputable def l1.cx : l1.h.I → Unit → l1.x.I := fun x r => ((), ())
noncomputable def l1.cr : l1.h.I → Bool → l1.r.I := fun x r => (r, ())
noncomputable def l1.f (K : Nat) : Nat → List Int → Int → Int → List (List Int) → Option ((Unit) ⊕ (Bool))
  | 0, _, _, _, _ => none
  | k + 1, a0, a1, a2, a5 => bif decide (a2 < a1) then bif decide ((0 : Int) ≤ a2) && true then a0[a2.toNat]?.bind fun t => bif decide ((0 : Int) ≤ a2) && true then a5[a2.toNat]?.bind fun t_1 => (bits_Has.f K t_1 t).bind fun t => bif !t then some (Sum.inr false) else l1.f K k a0 a1 (IntKind.i64.wrap (a2 + (1 : Int))) a5 else none else none else some (Sum.inl ())
noncomputable def l1.F (K : Nat) (k : Nat) : l1.h.I → Option ((Unit) ⊕ (Bool)) := fun (x : ((Unit × ((List Int) × (Int × Int))) × ((Bool × ((List LValue) × (List (List Int)))) × Unit))) => l1.f K k x.1.2.1 x.1.2.2.1 x.1.2.2.2 x.2.1.2.2
noncomputable def l1.lp {α : Type} (K : Nat) : St → Kn α → Option α := lpXRD 0 62 2 l1.h l1.x l1.r (l1.F K K) l1.cx l1.cr
theorem l1.ok {α : Type} (K : Nat) : LoopOk (α := α) M 0 (nthLoop Tryz.f31 1) (l1.lp K) := lpXRD_okS (C := (C K)) (LP := noLoops) (RF := noRefit) (CP := (CP K)) (L := 20) callsE_ok mxd noRefit_ok (CP_ok K) (noL (by kernel_rfl)) (lb rfl) (lb rfl) (lb rfl) (fun x => rfl) fun k (x : ((Unit × ((List Int) × (Int × Int))) × ((Bool × ((List LValue) × (List (List Int)))) × Unit))) => by
  refine Eq.trans ?_ withCv_def.symm
  unfold l1.F
  rw [l1.f]
  try simp only [el]
  kernel_rfl
noncomputable def l0.h : SSh := ⟨[2, 3, 30, 31, 32], (.cons (.ty (.slice yI)) (.cons (.ptr 0 0) (.cons (.ty (.slice yI)) (.cons (.ty yI) (.ty yI))))), [.cells 79 0 (.cons (.ty .bool) (.cons (.ty (.slice yValue)) (.ty (.slice (.slice yI)))))]⟩
noncomputable def l0.x : SSh := ⟨[2, 3], (.cons (.ty (.slice yI)) (.ptr 0 0)), [.cells 79 0 (.cons (.ty .bool) (.cons (.ty (.slice yValue)) (.ty (.slice (.slice yI)))))]⟩
noncomputable def l0.r : SSh := ⟨[6], (.ty .bool), []⟩
noncomputable def l0.cx : l0.h.I → Unit → l0.x.I := fun x r => ((x.1.1, ()), ((x.2.1.1, (x.2.1.2.1, x.2.1.2.2)), ()))
noncomputable def l0.cr : l0.h.I → Bool → l0.r.I := fun x r => (r, ())
noncomputable def l0.f (K : Nat) : Nat → List Int → Int → Int → List LValue → Option ((Unit) ⊕ (Bool))
  | 0, _, _, _, _ => none
  | k + 1, a1, a2, a3, a5 => bif decide (a3 < a2) then bif decide ((0 : Int) ≤ a3) && true then a1[a3.toNat]?.bind fun t => bif decide ((0 : Int) ≤ a3) && true then a5[a3.toNat]?.bind fun t_1 => (fact_Has.f K t_1.1 t_1.2.1.1 t_1.2.1.2 t_1.2.2.1.1 t_1.2.2.1.2 t_1.2.2.2 t).bind fun t => bif !t then some (Sum.inr false) else l0.f K k a1 a2 (IntKind.i64.wrap (a3 + (1 : Int))) a5 else none else none else some (Sum.inl ())
noncomputable def l0.F (K : Nat) (k : Nat) : l0.h.I → Option ((Unit) ⊕ (Bool)) := fun (x : (((List Int) × (Unit × ((List Int) × (Int × Int)))) × ((Bool × ((List LValue) × (List (List Int)))) × Unit))) => l0.f K k x.1.2.2.1 x.1.2.2.2.1 x.1.2.2.2.2 x.2.1.2.1
noncomputable def l0.lp {α : Type} (K : Nat) : St → Kn α → Option α := lpXRD 0 62 0 l0.h l0.x l0.r (l0.F K K) l0.cx l0.cr
theorem l0.ok {α : Type} (K : Nat) : LoopOk (α := α) M 0 (nthLoop Tryz.f31 0) (l0.lp K) := lpXRD_okS (C := (C K)) (LP := noLoops) (RF := noRefit) (CP := (CP K)) (L := 20) callsE_ok mxd noRefit_ok (CP_ok K) (noL (by kernel_rfl)) (lb rfl) (lb rfl) (lb rfl) (fun x => rfl) fun k (x : (((List Int) × (Unit × ((List Int) × (Int × Int)))) × ((Bool × ((List LValue) × (List (List Int)))) × Unit))) => by
  refine Eq.trans ?_ withCv_def.symm
  unfold l0.F
  rw [l0.f]
  try simp only [el]
  kernel_rfl
noncomputable def f (K : Nat) (a0 : Bool) (a1 : List LValue) (a2 : List (List Int)) (a3 : List Int) (a4 : List Int) : Option (Bool) := bindC (bif !a0 then some true else bif (↑a3.length : Int) != (↑a1.length : Int) then some true else some ((↑a4.length : Int) != (↑a2.length : Int))) fun t => bif t then some false else (l0.f K K a3 (↑a3.length : Int) (0 : Int) a1).bind fun t => Sum.elim (fun t => (l1.f K K a4 (↑a4.length : Int) (0 : Int) a2).bind fun t => Sum.elim (fun t => some true) (fun t => some t) t) (fun t => some t) t
noncomputable def F (K : Nat) : sig.In → Option (Bool) := fun (x : (((Bool × ((List LValue) × (List (List Int)))) × ((List Int) × (List Int))) × Unit)) => f K x.1.1.1 x.1.1.2.1 x.1.1.2.2 x.1.2.1 x.1.2.2
noncomputable def cv : sig.In → Bool → sig.Ou := fun x r => (r, ())
theorem rets (K : Nat) : ∀ x y, withCv (F K) cv x = some y → Rets M 31 sig x y := runF_retsS (C := (C K)) (LP := (lpPut 4 (l0.lp K) (lpPut 10 (l1.lp K) noLoops))) (RF := noRefit) (CP := (CP K)) callsE_ok mxd noRefit_ok (CP_ok K) (show LoopsOk M 0 (lpPut 4 (l0.lp K) (lpPut 10 (l1.lp K) noLoops)) (loopsOf (bodyOf Tryz.f31)) from (show loopsOf (bodyOf Tryz.f31) = [nthLoop Tryz.f31 0, nthLoop Tryz.f31 1] by kernel_rfl) ▸ (loopsOk_put (key := 4) (by kernel_rfl) (l0.ok K) (loopsOk_put (key := 10) (by kernel_rfl) (l1.ok K) noLoops_ok (by kernel_rfl)) (by kernel_rfl))) (lb rfl) Tryz.func31 (by kernel_rfl) fun (x : (((Bool × ((List LValue) × (List (List Int)))) × ((List Int) × (List Int))) × Unit)) => by
  refine Eq.trans ?_ withCv_def.symm
  unfold F f
  try simp only [el]
  kernel_rfl
noncomputable def e (K : Nat) : En M := ⟨31, sig, _, F K, cv, by rfl, Tryz.f31, Tryz.func31, by kernel_rfl, rfl, rets K⟩
end state_Has
namespace avermenttop_AvermentTrails
noncomputable def sig : Sig := ⟨(.cons (.agg (.cons (.ty (.slice yI)) (.cons (.ty (.slice yFunc)) (.cons (.ty (.slice yImport)) (.cons (.ty yI) (.cons (.ty (.slice yI)) (.ty (.slice yI)))))))) (.ty (.slice yValue))), [], (.ty .bool), []⟩
noncomputable def C {α : Type} (K : Nat) : CallsBy α := callsE (M := M) [avermentlaw07_Few.e K, avermenttop_runs.e K, avermentlaw07_Ready.e K, avermentlaw04_To.e K, avermenttop_anyEnv.e K, fact_Of.e K, avermentref12_Fix.e K, avermentlaw12_To.e K, fact_Join.e K, vm_Start.e K, ir_First.e K, state_Begin.e K, vm_Machine_Frames.e K, vm_Machine_Step.e K, flow_Insn.e K, state_Branch.e K, state_Has.e K]
noncomputable def CP {α : Type} (K : Nat) : CutBy α := (cpPut 2 (rpCut M bindC [.bool] [28] (C K) (eqBy M.P)) (cpPut 15 (rpCut M bindC [.bool] [80] (C K) (eqBy M.P)) (cpPut 25 (rpCut M bindC [.bool] [117] (C K) (eqBy M.P)) (cpPut 29 (rpCut M bindC [.bool] [149] (C K) (eqBy M.P)) (cpPut 35 (rpCut M bindC [.bool] [192] (C K) (eqBy M.P)) noCuts)))))
theorem CP_ok {α : Type} (K : Nat) : CutsOk (α := α) M 0 (CP K) := (cpPut_ok (rpCut_ok callsE_ok (eqBy_ok _) mxd) (cpPut_ok (rpCut_ok callsE_ok (eqBy_ok _) mxd) (cpPut_ok (rpCut_ok callsE_ok (eqBy_ok _) mxd) (cpPut_ok (rpCut_ok callsE_ok (eqBy_ok _) mxd) (cpPut_ok (rpCut_ok callsE_ok (eqBy_ok _) mxd) noCuts_ok)))))
noncomputable def l1.h : SSh := ⟨[2, 5, 6, 10, 12, 13], (.cons (.ptr 0 0) (.cons (.ptr 1 0) (.cons (.ptr 2 0) (.cons (.ptr 3 0) (.cons (.ptr 4 0) (.ty yI)))))), [.cells 28 0 (.cons (.ty (.slice yI)) (.cons (.ty (.slice yFunc)) (.cons (.ty (.slice yImport)) (.cons (.ty yI) (.cons (.ty (.slice yI)) (.ty (.slice yI))))))), .cells 35 0 (.cons (.ty (.slice yI)) (.cons (.ty (.slice yFunc)) (.ty (.slice yImport)))), .cells 61 0 (.cons (.ty (.slice yI)) (.cons (.ty (.slice yFunc)) (.cons (.ty (.slice yImport)) (.cons (.ty (.slice yValue)) (.ty (.slice ySum)))))), .cells 132 0 (.cons (.ty (.ptr yprogram)) (.cons (.own 5) (.cons (.ty (.slice yI)) (.cons (.own 6) (.cons (.own 7) (.cons (.ty yI) (.ty yI))))))), .cells 79 0 (.cons (.ty .bool) (.cons (.ty (.slice yValue)) (.ty (.slice (.slice yI))))), .list 2 yI [], .list 2 yI [], .list 86 (.pair yI (.pair yI (.pair yI (.pair (.own 0) (.own 1))))) [8, 9], .many 2 yI, .many 3 yI]⟩
noncomputable def l1.x : SSh := ⟨[], .unit, []⟩
noncomputable def l1.r : SSh := ⟨[4], (.ty .bool), []⟩
noncomputable def l1.cx : l1.h.I → Unit → l1.x.I := fun x r => ((), ())
noncomputable def l1.cr : l1.h.I → Bool → l1.r.I := fun x r => (r, ())
noncomputable def l1.f (K : Nat) : Nat → Int → Int → List LFunc → List LFunc → List LValue → List LSum → Option Lprogram → List Int → Int → Int → Bool → List LValue → List (List Int) → List Int → List Int → List (Int × Int × Int × Nat × Nat) → List (List Int) → List (List Int) → Option ((Unit) ⊕ (Bool))
  | 0, _, _, _, _, _, _, _, _, _, _, _, _, _, _, _, _, _, _ => none
  | k + 1, a0, a4, a8, a11, a13, a14, a15, a16, a17, a18, a19, a20, a21, a22, a23, a24, a25, a26 => bif decide (a0 < (150 : Int)) then (vm_Machine_Frames.f K a24 a25 a26).bind fun t => (vm_Machine_Step.f K a15 a16 a17 a18 a22 a23 a24 a25 a26).bind fun t_1 => bif !t_1.1 then some (Sum.inr true) else (vm_Machine_Frames.f K t_1.2.2.2.2.2.2.2.2 t_1.2.2.2.2.2.1 t_1.2.2.2.2.2.2.1).bind fun t_2 => bindC (bif (↑t_2.length : Int) == (0 : Int) then some true else bif decide ((↑t_2.length : Int) > (1 : Int)) then some true else some ((↑t.length : Int) == (0 : Int))) fun t_3 => bif t_3 then bif (↑t_2.length : Int) == (0 : Int) then some (Sum.inr true) else l1.f K k (IntKind.i64.wrap (a0 + (1 : Int))) a4 a8 a11 a13 a14 a15 t_1.2.1 t_1.2.2.1 t_1.2.2.2.1 a19 a20 a21 t_1.2.2.2.2.1 t_1.2.2.2.2.2.2.2.1 t_1.2.2.2.2.2.2.2.2 t_1.2.2.2.2.2.1 t_1.2.2.2.2.2.2.1 else t[(0 : Nat)]?.bind fun t => t_2[(0 : Nat)]?.bind fun t_4 => bindC (bif decide (t.2.1 < (0 : Int)) then some true else bif decide ((0 : Int) ≤ a4) && true then a8[a4.toNat]?.bind fun t_5 => bif decide (t.2.1 ≥ (↑(List.length t_5.2.2.2) : Int)) then some true else some (t.1 != a4) else none) fun t_5 => bif t_5 then some (Sum.inr false) else bif decide ((0 : Int) ≤ a4) && true then a8[a4.toNat]?.bind fun t_6 => bif decide ((0 : Int) ≤ t.2.1) && true then t_6.2.2.2[Int.toNat t.2.1]?.bind fun t_7 => bif decide (t.2.2.1 < (↑(List.length t_7.1) : Int)) then (flow_Insn.f K a11 a13 a14 a4 t.2.1 t.2.2.1 a19 a20 a21).bind fun t => (state_Has.f K t.1 t.2.1 t.2.2.1 t_4.2.2.2.1 t_4.2.2.2.2).bind fun t_8 => bif !t_8 then some (Sum.inr false) else l1.f K k (IntKind.i64.wrap (a0 + (1 : Int))) a4 a8 a11 a13 a14 a15 t_1.2.1 t_1.2.2.1 t_1.2.2.2.1 t.1 t.2.1 t.2.2.1 t_1.2.2.2.2.1 t_1.2.2.2.2.2.2.2.1 t_1.2.2.2.2.2.2.2.2 t_1.2.2.2.2.2.1 t_1.2.2.2.2.2.2.1 else bindC (bif t_7.2.1 == (2 : Int) then some (t_7.2.2.2.1 != t_7.2.2.2.2) else some false) fun t => bif t then (state_Branch.f K a19 a20 a21 t_7.2.2.1 (t_4.2.1 == t_7.2.2.2.1)).bind fun t => (state_Has.f K t.1 t.2.1 t.2.2 t_4.2.2.2.1 t_4.2.2.2.2).bind fun t_8 => bif !t_8 then some (Sum.inr false) else l1.f K k (IntKind.i64.wrap (a0 + (1 : Int))) a4 a8 a11 a13 a14 a15 t_1.2.1 t_1.2.2.1 t_1.2.2.2.1 t.1 t.2.1 t.2.2 t_1.2.2.2.2.1 t_1.2.2.2.2.2.2.2.1 t_1.2.2.2.2.2.2.2.2 t_1.2.2.2.2.2.1 t_1.2.2.2.2.2.2.1 else (state_Has.f K a19 a20 a21 t_4.2.2.2.1 t_4.2.2.2.2).bind fun t => bif !t then some (Sum.inr false) else l1.f K k (IntKind.i64.wrap (a0 + (1 : Int))) a4 a8 a11 a13 a14 a15 t_1.2.1 t_1.2.2.1 t_1.2.2.2.1 a19 a20 a21 t_1.2.2.2.2.1 t_1.2.2.2.2.2.2.2.1 t_1.2.2.2.2.2.2.2.2 t_1.2.2.2.2.2.1 t_1.2.2.2.2.2.2.1 else none else none else some (Sum.inl ())
noncomputable def l1.F (K : Nat) (k : Nat) : l1.h.I → Option ((Unit) ⊕ (Bool)) := fun (x : ((Unit × (Unit × (Unit × (Unit × (Unit × Int))))) × (((List Int) × ((List LFunc) × ((List LImport) × (Int × ((List Int) × (List Int)))))) × (((List Int) × ((List LFunc) × (List LImport))) × (((List Int) × ((List LFunc) × ((List LImport) × ((List LValue) × (List LSum))))) × (((Option Lprogram) × (Unit × ((List Int) × (Unit × (Unit × (Int × Int)))))) × ((Bool × ((List LValue) × (List (List Int)))) × ((List Int) × ((List Int) × ((List (Int × Int × Int × Nat × Nat)) × ((List (List Int)) × ((List (List Int)) × Unit)))))))))))) => l1.f K k x.1.2.2.2.2.2 x.2.1.2.2.2.1 x.2.2.1.2.1 x.2.2.2.1.2.1 x.2.2.2.1.2.2.2.1 x.2.2.2.1.2.2.2.2 x.2.2.2.2.1.1 x.2.2.2.2.1.2.2.1 x.2.2.2.2.1.2.2.2.2.2.1 x.2.2.2.2.1.2.2.2.2.2.2 x.2.2.2.2.2.1.1 x.2.2.2.2.2.1.2.1 x.2.2.2.2.2.1.2.2 x.2.2.2.2.2.2.1 x.2.2.2.2.2.2.2.1 x.2.2.2.2.2.2.2.2.1 x.2.2.2.2.2.2.2.2.2.1 x.2.2.2.2.2.2.2.2.2.2.1
noncomputable def l1.lp {α : Type} (K : Nat) : St → Kn α → Option α := lpXRD 0 212 2 l1.h l1.x l1.r (l1.F K K) l1.cx l1.cr
theorem l1.ok {α : Type} (K : Nat) : LoopOk (α := α) M 0 (nthLoop Tryz.f4 1) (l1.lp K) := lpXRD_okS (C := (C K)) (LP := noLoops) (RF := noRefit) (CP := (CP K)) (L := 20) callsE_ok mxd noRefit_ok (CP_ok K) (noL (by kernel_rfl)) (lb rfl) (lb rfl) (lb rfl) (fun x => rfl) fun k (x : ((Unit × (Unit × (Unit × (Unit × (Unit × Int))))) × (((List Int) × ((List LFunc) × ((List LImport) × (Int × ((List Int) × (List Int)))))) × (((List Int) × ((List LFunc) × (List LImport))) × (((List Int) × ((List LFunc) × ((List LImport) × ((List LValue) × (List LSum))))) × (((Option Lprogram) × (Unit × ((List Int) × (Unit × (Unit × (Int × Int)))))) × ((Bool × ((List LValue) × (List (List Int)))) × ((List Int) × ((List Int) × ((List (Int × Int × Int × Nat × Nat)) × ((List (List Int)) × ((List (List Int)) × Unit)))))))))))) => by
  refine Eq.trans ?_ withCv_def.symm
  unfold l1.F
  rw [l1.f]
  try simp only [el]
  kernel_rfl
noncomputable def l0.h : SSh := ⟨[1, 2, 5, 6, 7, 8], (.cons (.ty (.slice yValue)) (.cons (.ptr 0 0) (.cons (.ptr 1 0) (.cons (.ptr 2 0) (.cons (.own 3) (.ty yI)))))), [.cells 28 0 (.cons (.ty (.slice yI)) (.cons (.ty (.slice yFunc)) (.cons (.ty (.slice yImport)) (.cons (.ty yI) (.cons (.ty (.slice yI)) (.ty (.slice yI))))))), .cells 35 0 (.cons (.ty (.slice yI)) (.cons (.ty (.slice yFunc)) (.ty (.slice yImport)))), .cells 61 0 (.cons (.ty (.slice yI)) (.cons (.ty (.slice yFunc)) (.cons (.ty (.slice yImport)) (.cons (.ty (.slice yValue)) (.ty (.slice ySum)))))), .list 68 yValue []]⟩
noncomputable def l0.x : SSh := ⟨[2, 5, 6, 7], (.cons (.ptr 0 0) (.cons (.ptr 1 0) (.cons (.ptr 2 0) (.own 3)))), [.cells 28 0 (.cons (.ty (.slice yI)) (.cons (.ty (.slice yFunc)) (.cons (.ty (.slice yImport)) (.cons (.ty yI) (.cons (.ty (.slice yI)) (.ty (.slice yI))))))), .cells 35 0 (.cons (.ty (.slice yI)) (.cons (.ty (.slice yFunc)) (.ty (.slice yImport)))), .cells 61 0 (.cons (.ty (.slice yI)) (.cons (.ty (.slice yFunc)) (.cons (.ty (.slice yImport)) (.cons (.ty (.slice yValue)) (.ty (.slice ySum)))))), .list 68 yValue []]⟩
noncomputable def l0.cx : l0.h.I → (List LValue) → l0.x.I := fun x r => (((), ((), ((), ()))), ((x.2.1.1, (x.2.1.2.1, (x.2.1.2.2.1, (x.2.1.2.2.2.1, (x.2.1.2.2.2.2.1, x.2.1.2.2.2.2.2))))), ((x.2.2.1.1, (x.2.2.1.2.1, x.2.2.1.2.2)), ((x.2.2.2.1.1, (x.2.2.2.1.2.1, (x.2.2.2.1.2.2.1, (x.2.2.2.1.2.2.2.1, x.2.2.2.1.2.2.2.2)))), (r, ())))))
noncomputable def l0.f (K : Nat) : Nat → List LValue → Int → List Int → List LValue → Option (List LValue)
  | 0, _, _, _, _ => none
  | k + 1, a0, a1, a6, a16 => bif decide (a1 < (↑a6.length : Int)) then bif decide ((0 : Int) ≤ a1) && true then a6[a1.toNat]?.bind fun t => (fact_Of.f K t).bind fun t_1 => bif decide (a1 < (↑a0.length : Int)) then bif decide ((0 : Int) ≤ a1) && true then a0[a1.toNat]?.bind fun t_2 => (avermentref12_Fix.f K t_2.1 t_2.2.1.1 t_2.2.1.2 t_2.2.2.1.1 t_2.2.2.1.2 t_2.2.2.2).bind fun t_3 => (avermentlaw12_To.f K).bind fun t_4 => (fact_Join.f K t_1.1 t_1.2.1 t t t t_1.2.2 t_3.1 t_3.2.1 t_3.2.2.1 t_3.2.2.2.1 t_3.2.2.2.2.1 t_3.2.2.2.2.2).bind fun t => bif (a16.length + [(t.1, (t.2.1, t.2.2.1), (t.2.2.2.1, t.2.2.2.2.1), t.2.2.2.2.2)].length).ble (100000 : Nat) then l0.f K k a0 (IntKind.i64.wrap (a1 + (1 : Int))) a6 (a16 ++ [(t.1, (t.2.1, t.2.2.1), (t.2.2.2.1, t.2.2.2.2.1), t.2.2.2.2.2)]) else none else none else bif (a16.length + [(t_1.1, (t_1.2.1, t), (t, t), t_1.2.2)].length).ble (100000 : Nat) then l0.f K k a0 (IntKind.i64.wrap (a1 + (1 : Int))) a6 (a16 ++ [(t_1.1, (t_1.2.1, t), (t, t), t_1.2.2)]) else none else none else some a16
noncomputable def l0.F (K : Nat) (k : Nat) : l0.h.I → Option (List LValue) := fun x => l0.f K k x.1.1 x.1.2.2.2.2.2 x.2.1.2.2.2.2.1 x.2.2.2.2.1
noncomputable def l0.lp {α : Type} (K : Nat) : St → Kn α → Option α := lpX 0 212 0 l0.h l0.x (l0.F K K) l0.cx
theorem l0.ok {α : Type} (K : Nat) : LoopOk (α := α) M 0 (nthLoop Tryz.f4 0) (l0.lp K) := lpX_okS (C := (C K)) (LP := noLoops) (RF := noRefit) (CP := (CP K)) (L := 20) callsE_ok mxd noRefit_ok (CP_ok K) (noL (by kernel_rfl)) (lb rfl) (lb rfl) (fun x => rfl) fun k x => by
  rw [withCv_def]
  unfold l0.F
  rw [l0.f]
  try simp only [el]
  kernel_rfl
noncomputable def f (K : Nat) (a0 : List Int) (a1 : List LFunc) (a2 : List LImport) (a3 : Int) (a4 : List Int) (a5 : List Int) (a6 : List LValue) : Option (Bool) := (avermentlaw07_Few.f K a0 a1 a2 a4 a5).bind fun t => bindC ((avermenttop_runs.f K).bind fun t_1 => bif !t_1 then some true else (avermentlaw07_Ready.f K t.1 t.2.1 t.2.2.1 a3 t.2.2.2.1).bind fun t => some !t) fun t_1 => bif t_1 then avermenttop_runs.f K else (avermentlaw04_To.f K t.1 t.2.1 t.2.2.1).bind fun t_2 => (avermenttop_anyEnv.f K t_2.1 t_2.2.1 t_2.2.2).bind fun t_3 => (l0.f K K a6 (0 : Int) t.2.2.2.1 []).bind fun t_4 => (vm_Start.f K t_2.1 t_2.2.1 t_2.2.2 a3 t.2.2.2.1 t.2.2.2.2).bind fun t => bindC (some (bif true then !t.1.isNil else t.1.isNil)) fun t_5 => bif t_5 then some false else bif decide ((0 : Int) ≤ a3) && true then t_2.2.1[a3.toNat]?.bind fun t_6 => (ir_First.f K t_2.2.1 a3).bind fun t_7 => (state_Begin.f K t_6.2.2.1 t_4 t_7).bind fun t_8 => (l1.f K K (0 : Int) a3 t_2.2.1 t_2.2.1 t_3.1 t_3.2 t.2.1 t.2.2.1 t.2.2.2.1 t.2.2.2.2.1 t_8.1 t_8.2.1 t_8.2.2 t.2.2.2.2.2.1 t.2.2.2.2.2.2.1 t.2.2.2.2.2.2.2.1 t.2.2.2.2.2.2.2.2.1 t.2.2.2.2.2.2.2.2.2).bind fun t => Sum.elim (fun t => some true) (fun t => some t) t else none
noncomputable def F (K : Nat) : sig.In → Option (Bool) := fun x => f K x.1.1.1 x.1.1.2.1 x.1.1.2.2.1 x.1.1.2.2.2.1 x.1.1.2.2.2.2.1 x.1.1.2.2.2.2.2 x.1.2
noncomputable def cv : sig.In → Bool → sig.Ou := fun x r => (r, ())
theorem rets (K : Nat) : ∀ x y, withCv (F K) cv x = some y → Rets M 4 sig x y := runF_retsS (C := (C K)) (LP := (lpPut 8 (l0.lp K) (lpPut 19 (l1.lp K) noLoops))) (RF := noRefit) (CP := (CP K)) callsE_ok mxd noRefit_ok (CP_ok K) (show LoopsOk M 0 (lpPut 8 (l0.lp K) (lpPut 19 (l1.lp K) noLoops)) (loopsOf (bodyOf Tryz.f4)) from (show loopsOf (bodyOf Tryz.f4) = [nthLoop Tryz.f4 0, nthLoop Tryz.f4 1] by kernel_rfl) ▸ (loopsOk_put (key := 8) (by kernel_rfl) (l0.ok K) (loopsOk_put (key := 19) (by kernel_rfl) (l1.ok K) noLoops_ok (by kernel_rfl)) (by kernel_rfl))) (lb rfl) Tryz.func4 (by kernel_rfl) fun x => by
  rw [withCv_def]
  unfold F f
  try simp only [el]
  kernel_rfl
noncomputable def e (K : Nat) : En M := ⟨4, sig, _, F K, cv, by rfl, Tryz.f4, Tryz.func4, by kernel_rfl, rfl, rets K⟩
end avermenttop_AvermentTrails
end
end Go.Proofs.YtdjkdmjdcdljmaaGreat.AT
