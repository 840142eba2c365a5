/- The law AvermentFiles, in parts: this text is packed by program (names shortened). No condition. -/
import Derived.Test.YtdjkdmjdcdljmaaGreatDoorPD
import Derived.Test.YtdjkdmjdcdljmaaGreatDoorPH
import Derived.KernelRfl
set_option linter.unusedVariables false
set_option linter.unusedSimpArgs false
set_option linter.unusedSectionVars false
namespace Go.Proofs.YtdjkdmjdcdljmaaGreatDoor.AF
open Go.Proofs.q0a
noncomputable section
set_option maxRecDepth 1000000
set_option maxHeartbeats 4000000
namespace q2q
noncomputable def X (K : Nat) : Fx M 0 := { hmx := mxd, nt := 26, cs := [] }
noncomputable def l0.f (K : Nat) : Nat → List Int → List Int → Int → Int → Option ((Unit) ⊕ (Bool))
  | 0, _, _, _, _ => none
  | k + 1, a0, a1, a2, a3 => bif decide (a3 < a2) then bif decide ((0 : Int) ≤ a3) && true then a0[a3.toNat]?.bind fun t => bif decide ((0 : Int) ≤ a3) && true then a1[a3.toNat]?.bind fun t_1 => bif t != t_1 then some (Sum.inr false) else l0.f K k a0 a1 a2 (IntKind.i64.wrap (a3 + (1 : Int))) else none else none else some (Sum.inl ())
noncomputable def l0.b (K : Nat) : Lp M 0 := q37 (X K) 4 26 0 (q0o Tryz.f93 0) ⟨[0, 1, 12, 13], sha7, []⟩ ss13 ss94 K [] (fun k x => l0.f K k x.1.1 x.1.2.1 x.1.2.2.1 x.1.2.2.2) (fun x r => ((), ())) (fun x r => (r, ())) fun k x => by
  rw [q0b, l0.f]
  try simp only [el]
  kernel_rfl
noncomputable def f (K : Nat) (a0 : List Int) (a1 : List Int) : Option (Bool) := bif (↑a0.length : Int) != (↑a1.length : Int) then some false else (l0.f K K a0 a1 (↑a0.length : Int) (0 : Int)).bind fun t => Sum.elim (fun t => some true) (fun t => some t) t
noncomputable def e (K : Nat) : En M := fnE (X K) 93 Tryz.func93 ⟨sha6, [], (.ty .bool), []⟩ [l0.b K] (fun x => f K x.1.1 x.1.2) (fun x r => (r, ())) fun x => by
  rw [q0b, f]
  try simp only [el]
  kernel_rfl
end q2q
namespace q8d
noncomputable def X (K : Nat) : Fx M 0 := { hmx := mxd, nt := 45, cs := [q2q.e K], cp := [(1, [.bool], [4])] }
noncomputable def f (K : Nat) (a0 : Int) (a1 : Int) (a2 : Int) (a3 : Int) (a4 : Int) (a5 : List Int) (a6 : Int) (a7 : Int) (a8 : Int) (a9 : Int) (a10 : Int) (a11 : List Int) : Option (Bool) := q1c (bif a0 == a6 then bif a1 == a7 then bif a2 == a8 then bif a3 == a9 then bif a4 == a10 then (q2q.f K a5 a11).bind fun t => some t else some false else some false else some false else some false else some false) fun t => some t
noncomputable def e (K : Nat) : En M := fnE (X K) 155 Tryz.func155 ⟨(.cons (.agg (.cons (.ty yI) (.cons (.ty yI) (.cons (.ty yI) (.cons (.ty yI) (.cons (.ty yI) (.ty (.slice yI)))))))) (.agg (.cons (.ty yI) (.cons (.ty yI) (.cons (.ty yI) (.cons (.ty yI) (.cons (.ty yI) (.ty (.slice yI))))))))), [], (.ty .bool), []⟩ [] (fun x => f K x.1.1.1 x.1.1.2.1 x.1.1.2.2.1 x.1.1.2.2.2.1 x.1.1.2.2.2.2.1 x.1.1.2.2.2.2.2 x.1.2.1 x.1.2.2.1 x.1.2.2.2.1 x.1.2.2.2.2.1 x.1.2.2.2.2.2.1 x.1.2.2.2.2.2.2) (fun x r => (r, ())) fun x => by
  rw [q0b, f]
  try simp only [el]
  kernel_rfl
end q8d
namespace q08
noncomputable def X (K : Nat) : Fx M 0 := { hmx := mxd, nt := 32, cs := [q8d.e K] }
noncomputable def l0.f (K : Nat) : Nat → List q32 → List q32 → Int → Int → Option ((Unit) ⊕ (Bool))
  | 0, _, _, _, _ => none
  | k + 1, a0, a1, a2, a3 => bif decide (a3 < a2) then bif decide ((0 : Int) ≤ a3) && true then a1[a3.toNat]?.bind fun t => bif decide ((0 : Int) ≤ a3) && true then a0[a3.toNat]?.bind fun t_1 => (q8d.f K t.1 t.2.1 t.2.2.1 t.2.2.2.1 t.2.2.2.2.1 t.2.2.2.2.2 t_1.1 t_1.2.1 t_1.2.2.1 t_1.2.2.2.1 t_1.2.2.2.2.1 t_1.2.2.2.2.2).bind fun t => bif !t then some (Sum.inr false) else l0.f K k a0 a1 a2 (IntKind.i64.wrap (a3 + (1 : Int))) else none else none else some (Sum.inl ())
noncomputable def l0.b (K : Nat) : Lp M 0 := q37 (X K) 4 32 0 (q0o Tryz.f154 0) ⟨[1, 2, 15, 16, 17], (.cons (.ty (.slice q69)) (.cons (.fn 155 .unit .unit) (.cons (.ty (.slice q69)) (.cons (.ty yI) (.ty yI))))), []⟩ ss13 ss95 K [] (fun k x => l0.f K k x.1.1 x.1.2.2.1 x.1.2.2.2.1 x.1.2.2.2.2) (fun x r => ((), ())) (fun x r => (r, ())) fun k x => by
  rw [q0b, l0.f]
  try simp only [el]
  kernel_rfl
noncomputable def f (K : Nat) (a0 : List q32) (a1 : List q32) : Option (Bool) := bif (↑a0.length : Int) != (↑a1.length : Int) then some false else (l0.f K K a1 a0 (↑a0.length : Int) (0 : Int)).bind fun t => Sum.elim (fun t => some true) (fun t => some t) t
noncomputable def e (K : Nat) : En M := fnE (X K) 154 Tryz.func154 ⟨(.cons (.ty (.slice q69)) (.cons (.ty (.slice q69)) (.fn 155 .unit .unit))), [], (.ty .bool), []⟩ [l0.b K] (fun x => f K x.1.1 x.1.2.1) (fun x r => (r, ())) fun x => by
  rw [q0b, f]
  try simp only [el]
  kernel_rfl
end q08
namespace q7p
noncomputable def X (K : Nat) : Fx M 0 := { hmx := mxd, nt := 17, cs := [q08.e K], cp := [(1, [.bool], [4])] }
noncomputable def f (K : Nat) (a0 : List q32) (a1 : Int) (a2 : Int) (a3 : Int) (a4 : Int) (a5 : List q32) (a6 : Int) (a7 : Int) (a8 : Int) (a9 : Int) : Option (Bool) := q1c (bif bif false then !(a1 == a6 && (a2 == a7 && (a3 == a8 && a4 == a9))) else a1 == a6 && (a2 == a7 && (a3 == a8 && a4 == a9)) then (q08.f K a0 a5).bind fun t => some t else some false) fun t => some t
noncomputable def e (K : Nat) : En M := fnE (X K) 91 Tryz.func91 ⟨(.cons (.agg (.cons (.ty (.slice q69)) (.cons (.ty yI) (.cons (.ty yI) (.cons (.ty yI) (.ty yI)))))) (.agg (.cons (.ty (.slice q69)) (.cons (.ty yI) (.cons (.ty yI) (.cons (.ty yI) (.ty yI))))))), [], (.ty .bool), []⟩ [] (fun x => f K x.1.1.1 x.1.1.2.1 x.1.1.2.2.1 x.1.1.2.2.2.1 x.1.1.2.2.2.2 x.1.2.1 x.1.2.2.1 x.1.2.2.2.1 x.1.2.2.2.2.1 x.1.2.2.2.2.2) (fun x r => (r, ())) fun x => by
  rw [q0b, f]
  try simp only [el]
  kernel_rfl
end q7p
namespace q04
noncomputable def X (K : Nat) : Fx M 0 := { hmx := mxd, nt := 32, cs := [q7p.e K] }
noncomputable def l0.f (K : Nat) : Nat → List q1k → List q1k → Int → Int → Option ((Unit) ⊕ (Bool))
  | 0, _, _, _, _ => none
  | k + 1, a0, a1, a2, a3 => bif decide (a3 < a2) then bif decide ((0 : Int) ≤ a3) && true then a1[a3.toNat]?.bind fun t => bif decide ((0 : Int) ≤ a3) && true then a0[a3.toNat]?.bind fun t_1 => (q7p.f K t.1 t.2.1 t.2.2.1 t.2.2.2.1 t.2.2.2.2 t_1.1 t_1.2.1 t_1.2.2.1 t_1.2.2.2.1 t_1.2.2.2.2).bind fun t => bif !t then some (Sum.inr false) else l0.f K k a0 a1 a2 (IntKind.i64.wrap (a3 + (1 : Int))) else none else none else some (Sum.inl ())
noncomputable def l0.b (K : Nat) : Lp M 0 := q37 (X K) 4 32 0 (q0o Tryz.f90 0) ⟨[1, 2, 15, 16, 17], (.cons (.ty (.slice q3f)) (.cons (.fn 91 .unit .unit) (.cons (.ty (.slice q3f)) (.cons (.ty yI) (.ty yI))))), []⟩ ss13 ss95 K [] (fun k x => l0.f K k x.1.1 x.1.2.2.1 x.1.2.2.2.1 x.1.2.2.2.2) (fun x r => ((), ())) (fun x r => (r, ())) fun k x => by
  rw [q0b, l0.f]
  try simp only [el]
  kernel_rfl
noncomputable def f (K : Nat) (a0 : List q1k) (a1 : List q1k) : Option (Bool) := bif (↑a0.length : Int) != (↑a1.length : Int) then some false else (l0.f K K a1 a0 (↑a0.length : Int) (0 : Int)).bind fun t => Sum.elim (fun t => some true) (fun t => some t) t
noncomputable def e (K : Nat) : En M := fnE (X K) 90 Tryz.func90 ⟨(.cons (.ty (.slice q3f)) (.cons (.ty (.slice q3f)) (.fn 91 .unit .unit))), [], (.ty .bool), []⟩ [l0.b K] (fun x => f K x.1.1 x.1.2.1) (fun x r => (r, ())) fun x => by
  rw [q0b, f]
  try simp only [el]
  kernel_rfl
end q04
namespace q8k
noncomputable def X (K : Nat) : Fx M 0 := { hmx := mxd, nt := 31, cs := [q04.e K], cp := [(1, [.bool], [4])] }
noncomputable def f (K : Nat) (a0 : ByteArray) (a1 : Int) (a2 : Int) (a3 : List q1k) (a4 : ByteArray) (a5 : Int) (a6 : Int) (a7 : List q1k) : Option (Bool) := q1c (bif a0.toList == a4.toList then bif a1 == a5 then bif a2 == a6 then (q04.f K a3 a7).bind fun t => some t else some false else some false else some false) fun t => some t
noncomputable def e (K : Nat) : En M := fnE (X K) 46 Tryz.func46 ⟨(.cons (.agg (.cons (.ty .str) (.cons (.ty yI) (.cons (.ty yI) (.ty (.slice q3f)))))) (.agg (.cons (.ty .str) (.cons (.ty yI) (.cons (.ty yI) (.ty (.slice q3f))))))), [], (.ty .bool), []⟩ [] (fun x => f K x.1.1.1 x.1.1.2.1 x.1.1.2.2.1 x.1.1.2.2.2 x.1.2.1 x.1.2.2.1 x.1.2.2.2.1 x.1.2.2.2.2) (fun x r => (r, ())) fun x => by
  rw [q0b, f]
  try simp only [el]
  kernel_rfl
end q8k
namespace q07
noncomputable def X (K : Nat) : Fx M 0 := { hmx := mxd, nt := 32, cs := [q8k.e K] }
noncomputable def l0.f (K : Nat) : Nat → List q0t → List q0t → Int → Int → Option ((Unit) ⊕ (Bool))
  | 0, _, _, _, _ => none
  | k + 1, a0, a1, a2, a3 => bif decide (a3 < a2) then bif decide ((0 : Int) ≤ a3) && true then a1[a3.toNat]?.bind fun t => bif decide ((0 : Int) ≤ a3) && true then a0[a3.toNat]?.bind fun t_1 => (q8k.f K t.1 t.2.1 t.2.2.1 t.2.2.2 t_1.1 t_1.2.1 t_1.2.2.1 t_1.2.2.2).bind fun t => bif !t then some (Sum.inr false) else l0.f K k a0 a1 a2 (IntKind.i64.wrap (a3 + (1 : Int))) else none else none else some (Sum.inl ())
noncomputable def l0.b (K : Nat) : Lp M 0 := q37 (X K) 4 32 0 (q0o Tryz.f45 0) ⟨[1, 2, 15, 16, 17], (.cons (.ty (.slice q30)) (.cons (.fn 46 .unit .unit) (.cons (.ty (.slice q30)) (.cons (.ty yI) (.ty yI))))), []⟩ ss13 ss95 K [] (fun k x => l0.f K k x.1.1 x.1.2.2.1 x.1.2.2.2.1 x.1.2.2.2.2) (fun x r => ((), ())) (fun x r => (r, ())) fun k x => by
  rw [q0b, l0.f]
  try simp only [el]
  kernel_rfl
noncomputable def f (K : Nat) (a0 : List q0t) (a1 : List q0t) : Option (Bool) := bif (↑a0.length : Int) != (↑a1.length : Int) then some false else (l0.f K K a1 a0 (↑a0.length : Int) (0 : Int)).bind fun t => Sum.elim (fun t => some true) (fun t => some t) t
noncomputable def e (K : Nat) : En M := fnE (X K) 45 Tryz.func45 ⟨(.cons (.ty (.slice q30)) (.cons (.ty (.slice q30)) (.fn 46 .unit .unit))), [], (.ty .bool), []⟩ [l0.b K] (fun x => f K x.1.1 x.1.2.1) (fun x r => (r, ())) fun x => by
  rw [q0b, f]
  try simp only [el]
  kernel_rfl
end q07
namespace z1a
noncomputable def X (K : Nat) : Fx M 0 := { hmx := mxd, nt := 24, cs := [q2o.e K, q1t.e K, q07.e K], cp := [(1, [.bool], [4])] }
noncomputable def f (K : Nat) (a0 : List Int) (a1 : List q0t) (a2 : List q0h) (a3 : List Int) (a4 : List q0t) (a5 : List q0h) : Option (Bool) := q1c ((q2o.f K a0 a3).bind fun t => bif t then (q1t.f K a2 a5).bind fun t => bif t then (q07.f K a1 a4).bind fun t => some t else some false else some false) fun t => some t
noncomputable def e (K : Nat) : En M := fnE (X K) 11 Tryz.func11 ⟨(.cons (.agg (.cons (.ty (.slice yI)) (.cons (.ty (.slice q30)) (.ty (.slice q2f))))) (.agg (.cons (.ty (.slice yI)) (.cons (.ty (.slice q30)) (.ty (.slice q2f)))))), [], (.ty .bool), []⟩ [] (fun x => f K x.1.1.1 x.1.1.2.1 x.1.1.2.2 x.1.2.1 x.1.2.2.1 x.1.2.2.2) (fun x r => (r, ())) fun x => by
  rw [q0b, f]
  try simp only [el]
  kernel_rfl
end z1a
namespace q8s
noncomputable def f (K : Nat) (a0 : Int) (a1 : Bool) (a2 : Int) (a3 : Int) (a4 : Int) (a5 : Int) (a6 : Int) (a7 : Bool) (a8 : Int) (a9 : Int) (a10 : Int) (a11 : Int) : Option (Bool) := some (bif false then !(a0 == a6 && (a1 == a7 && a2 == a8 && (a3 == a9 && a4 == a10 && a5 == a11))) else a0 == a6 && (a1 == a7 && a2 == a8 && (a3 == a9 && a4 == a10 && a5 == a11)))
noncomputable def e (K : Nat) : En M := fnE (m := 0) { hmx := mxd, nt := 8, cs := [] } 47 Tryz.func47 ⟨(.cons (.agg (.cons (.ty yI) (.cons (.ty .bool) (.cons (.ty yI) (.cons (.ty yI) (.cons (.ty yI) (.ty yI))))))) (.agg (.cons (.ty yI) (.cons (.ty .bool) (.cons (.ty yI) (.cons (.ty yI) (.cons (.ty yI) (.ty yI)))))))), [], (.ty .bool), []⟩ [] (fun (x : (((Int × (Bool × (Int × (Int × (Int × Int))))) × (Int × (Bool × (Int × (Int × (Int × Int)))))) × Unit)) => f K x.1.1.1 x.1.1.2.1 x.1.1.2.2.1 x.1.1.2.2.2.1 x.1.1.2.2.2.2.1 x.1.1.2.2.2.2.2 x.1.2.1 x.1.2.2.1 x.1.2.2.2.1 x.1.2.2.2.2.1 x.1.2.2.2.2.2.1 x.1.2.2.2.2.2.2) (fun x r => (r, ())) fun (x : (((Int × (Bool × (Int × (Int × (Int × Int))))) × (Int × (Bool × (Int × (Int × (Int × Int)))))) × Unit)) => by
  refine Eq.trans ?_ q0b.symm
  rw [f]
  try simp only [el]
  kernel_rfl
end q8s
namespace q1f
noncomputable def X (K : Nat) : Fx M 0 := { hmx := mxd, nt := 26, cs := [] }
noncomputable def l0.f (K : Nat) : Nat → List q0d → List q0d → Int → Int → Option ((Unit) ⊕ (Bool))
  | 0, _, _, _, _ => none
  | k + 1, a0, a1, a2, a3 => bif decide (a3 < a2) then bif decide ((0 : Int) ≤ a3) && true then a0[a3.toNat]?.bind fun t => bif decide ((0 : Int) ≤ a3) && true then a1[a3.toNat]?.bind fun t_1 => bif bif true then !(t.1 == t_1.1 && (t.2.1.1 == t_1.2.1.1 && t.2.1.2 == t_1.2.1.2 && (t.2.2.1.1 == t_1.2.2.1.1 && t.2.2.1.2 == t_1.2.2.1.2 && t.2.2.2 == t_1.2.2.2))) else t.1 == t_1.1 && (t.2.1.1 == t_1.2.1.1 && t.2.1.2 == t_1.2.1.2 && (t.2.2.1.1 == t_1.2.2.1.1 && t.2.2.1.2 == t_1.2.2.1.2 && t.2.2.2 == t_1.2.2.2)) then some (Sum.inr false) else l0.f K k a0 a1 a2 (IntKind.i64.wrap (a3 + (1 : Int))) else none else none else some (Sum.inl ())
noncomputable def l0.b (K : Nat) : Lp M 0 := q37 (X K) 4 26 0 (q0o Tryz.f49 0) ⟨[0, 1, 12, 13], (.cons (.ty (.slice q02)) (.cons (.ty (.slice q02)) (.cons (.ty yI) (.ty yI)))), []⟩ ss13 ss94 K [] (fun k x => l0.f K k x.1.1 x.1.2.1 x.1.2.2.1 x.1.2.2.2) (fun x r => ((), ())) (fun x r => (r, ())) fun k x => by
  rw [q0b, l0.f]
  try simp only [el]
  kernel_rfl
noncomputable def f (K : Nat) (a0 : List q0d) (a1 : List q0d) : Option (Bool) := bif (↑a0.length : Int) != (↑a1.length : Int) then some false else (l0.f K K a0 a1 (↑a0.length : Int) (0 : Int)).bind fun t => Sum.elim (fun t => some true) (fun t => some t) t
noncomputable def e (K : Nat) : En M := fnE (X K) 49 Tryz.func49 ⟨(.cons (.ty (.slice q02)) (.ty (.slice q02))), [], (.ty .bool), []⟩ [l0.b K] (fun x => f K x.1.1 x.1.2) (fun x r => (r, ())) fun x => by
  rw [q0b, f]
  try simp only [el]
  kernel_rfl
end q1f
namespace q5x
noncomputable def X (K : Nat) : Fx M 0 := { hmx := mxd, nt := 31, cs := [q1f.e K], cp := [(1, [.bool], [4])] }
noncomputable def f (K : Nat) (a0 : Bool) (a1 : List q0d) (a2 : Bool) (a3 : Int) (a4 : Bool) (a5 : Int) (a6 : Int) (a7 : Int) (a8 : Int) (a9 : Bool) (a10 : List q0d) (a11 : Bool) (a12 : Int) (a13 : Bool) (a14 : Int) (a15 : Int) (a16 : Int) (a17 : Int) : Option (Bool) := q1c (bif a0 == a9 then (q1f.f K a1 a10).bind fun t => bif t then bif a2 == a11 then some (bif false then !(a3 == a12 && (a4 == a13 && a5 == a14 && (a6 == a15 && a7 == a16 && a8 == a17))) else a3 == a12 && (a4 == a13 && a5 == a14 && (a6 == a15 && a7 == a16 && a8 == a17))) else some false else some false else some false) fun t => some t
noncomputable def e (K : Nat) : En M := fnE (X K) 48 Tryz.func48 ⟨(.cons (.agg (.cons (.ty .bool) (.cons (.ty (.slice q02)) (.cons (.ty .bool) (.cons (.ty yI) (.cons (.ty .bool) (.cons (.ty yI) (.cons (.ty yI) (.cons (.ty yI) (.ty yI)))))))))) (.agg (.cons (.ty .bool) (.cons (.ty (.slice q02)) (.cons (.ty .bool) (.cons (.ty yI) (.cons (.ty .bool) (.cons (.ty yI) (.cons (.ty yI) (.cons (.ty yI) (.ty yI))))))))))), [], (.ty .bool), []⟩ [] (fun (x : (((Bool × ((List q0d) × (Bool × (Int × (Bool × (Int × (Int × (Int × Int)))))))) × (Bool × ((List q0d) × (Bool × (Int × (Bool × (Int × (Int × (Int × Int))))))))) × Unit)) => f K x.1.1.1 x.1.1.2.1 x.1.1.2.2.1 x.1.1.2.2.2.1 x.1.1.2.2.2.2.1 x.1.1.2.2.2.2.2.1 x.1.1.2.2.2.2.2.2.1 x.1.1.2.2.2.2.2.2.2.1 x.1.1.2.2.2.2.2.2.2.2 x.1.2.1 x.1.2.2.1 x.1.2.2.2.1 x.1.2.2.2.2.1 x.1.2.2.2.2.2.1 x.1.2.2.2.2.2.2.1 x.1.2.2.2.2.2.2.2.1 x.1.2.2.2.2.2.2.2.2.1 x.1.2.2.2.2.2.2.2.2.2) (fun x r => (r, ())) fun (x : (((Bool × ((List q0d) × (Bool × (Int × (Bool × (Int × (Int × (Int × Int)))))))) × (Bool × ((List q0d) × (Bool × (Int × (Bool × (Int × (Int × (Int × Int))))))))) × Unit)) => by
  refine Eq.trans ?_ q0b.symm
  rw [f]
  try simp only [el]
  kernel_rfl
end q5x
namespace q85
noncomputable def f (K : Nat) (a0 : List Int) (a1 : List Int) : Option (Bool) := q2q.f K a0 a1
noncomputable def e (K : Nat) : En M := fnE (m := 0) { hmx := mxd, nt := 8, cs := [q2q.e K] } 51 Tryz.func51 ⟨sha6, [], (.ty .bool), []⟩ [] (fun x => f K x.1.1 x.1.2) (fun x r => (r, ())) fun x => by
  rw [q0b, f]
  try simp only [el]
  kernel_rfl
end q85
namespace q1s
noncomputable def X (K : Nat) : Fx M 0 := { hmx := mxd, nt := 32, cs := [q85.e K] }
noncomputable def l0.f (K : Nat) : Nat → List (List Int) → List (List Int) → Int → Int → Option ((Unit) ⊕ (Bool))
  | 0, _, _, _, _ => none
  | k + 1, a0, a1, a2, a3 => bif decide (a3 < a2) then bif decide ((0 : Int) ≤ a3) && true then a1[a3.toNat]?.bind fun t => bif decide ((0 : Int) ≤ a3) && true then a0[a3.toNat]?.bind fun t_1 => (q85.f K t t_1).bind fun t => bif !t then some (Sum.inr false) else l0.f K k a0 a1 a2 (IntKind.i64.wrap (a3 + (1 : Int))) else none else none else some (Sum.inl ())
noncomputable def l0.b (K : Nat) : Lp M 0 := q37 (X K) 4 32 0 (q0o Tryz.f92 0) ⟨[1, 2, 15, 16, 17], (.cons (.ty (.slice (.slice yI))) (.cons (.fn 51 .unit .unit) (.cons (.ty (.slice (.slice yI))) (.cons (.ty yI) (.ty yI))))), []⟩ ss13 ss95 K [] (fun k x => l0.f K k x.1.1 x.1.2.2.1 x.1.2.2.2.1 x.1.2.2.2.2) (fun x r => ((), ())) (fun x r => (r, ())) fun k x => by
  rw [q0b, l0.f]
  try simp only [el]
  kernel_rfl
noncomputable def f (K : Nat) (a0 : List (List Int)) (a1 : List (List Int)) : Option (Bool) := bif (↑a0.length : Int) != (↑a1.length : Int) then some false else (l0.f K K a1 a0 (↑a0.length : Int) (0 : Int)).bind fun t => Sum.elim (fun t => some true) (fun t => some t) t
noncomputable def e (K : Nat) : En M := fnE (X K) 92 Tryz.func92 ⟨(.cons (.ty (.slice (.slice yI))) (.cons (.ty (.slice (.slice yI))) (.fn 51 .unit .unit))), [], (.ty .bool), []⟩ [l0.b K] (fun x => f K x.1.1 x.1.2.1) (fun x r => (r, ())) fun x => by
  rw [q0b, f]
  try simp only [el]
  kernel_rfl
end q1s
namespace q98
noncomputable def X (K : Nat) : Fx M 0 := { hmx := mxd, nt := 24, cs := [q1f.e K, q1s.e K], cp := [(1, [.bool], [4])] }
noncomputable def f (K : Nat) (a0 : Bool) (a1 : List q0d) (a2 : List (List Int)) (a3 : Bool) (a4 : List q0d) (a5 : List (List Int)) : Option (Bool) := q1c (bif a0 == a3 then (q1f.f K a1 a4).bind fun t => bif t then (q1s.f K a2 a5).bind fun t => some t else some false else some false) fun t => some t
noncomputable def e (K : Nat) : En M := fnE (X K) 50 Tryz.func50 ⟨(.cons (.agg (.cons (.ty .bool) (.cons (.ty (.slice q02)) (.ty (.slice (.slice yI)))))) (.agg (.cons (.ty .bool) (.cons (.ty (.slice q02)) (.ty (.slice (.slice yI))))))), [], (.ty .bool), []⟩ [] (fun (x : (((Bool × ((List q0d) × (List (List Int)))) × (Bool × ((List q0d) × (List (List Int))))) × Unit)) => f K x.1.1.1 x.1.1.2.1 x.1.1.2.2 x.1.2.1 x.1.2.2.1 x.1.2.2.2) (fun x r => (r, ())) fun (x : (((Bool × ((List q0d) × (List (List Int)))) × (Bool × ((List q0d) × (List (List Int))))) × Unit)) => by
  refine Eq.trans ?_ q0b.symm
  rw [f]
  try simp only [el]
  kernel_rfl
end q98
namespace q0x
noncomputable def X (K : Nat) : Fx M 0 := { hmx := mxd, nt := 32, cs := [q8s.e K] }
noncomputable def l0.f (K : Nat) : Nat → List q0d → List q0d → Int → Int → Option ((Unit) ⊕ (Bool))
  | 0, _, _, _, _ => none
  | k + 1, a0, a1, a2, a3 => bif decide (a3 < a2) then bif decide ((0 : Int) ≤ a3) && true then a1[a3.toNat]?.bind fun t => bif decide ((0 : Int) ≤ a3) && true then a0[a3.toNat]?.bind fun t_1 => (q8s.f K t.1 t.2.1.1 t.2.1.2 t.2.2.1.1 t.2.2.1.2 t.2.2.2 t_1.1 t_1.2.1.1 t_1.2.1.2 t_1.2.2.1.1 t_1.2.2.1.2 t_1.2.2.2).bind fun t => bif !t then some (Sum.inr false) else l0.f K k a0 a1 a2 (IntKind.i64.wrap (a3 + (1 : Int))) else none else none else some (Sum.inl ())
noncomputable def l0.b (K : Nat) : Lp M 0 := q37 (X K) 4 32 0 (q0o Tryz.f94 0) ⟨[1, 2, 15, 16, 17], (.cons (.ty (.slice q02)) (.cons (.fn 47 .unit .unit) (.cons (.ty (.slice q02)) (.cons (.ty yI) (.ty yI))))), []⟩ ss13 ss95 K [] (fun k x => l0.f K k x.1.1 x.1.2.2.1 x.1.2.2.2.1 x.1.2.2.2.2) (fun x r => ((), ())) (fun x r => (r, ())) fun k x => by
  rw [q0b, l0.f]
  try simp only [el]
  kernel_rfl
noncomputable def f (K : Nat) (a0 : List q0d) (a1 : List q0d) : Option (Bool) := bif (↑a0.length : Int) != (↑a1.length : Int) then some false else (l0.f K K a1 a0 (↑a0.length : Int) (0 : Int)).bind fun t => Sum.elim (fun t => some true) (fun t => some t) t
noncomputable def e (K : Nat) : En M := fnE (X K) 94 Tryz.func94 ⟨(.cons (.ty (.slice q02)) (.cons (.ty (.slice q02)) (.fn 47 .unit .unit))), [], (.ty .bool), []⟩ [l0.b K] (fun x => f K x.1.1 x.1.2.1) (fun x r => (r, ())) fun x => by
  rw [q0b, f]
  try simp only [el]
  kernel_rfl
end q0x
namespace q5k
noncomputable def X (K : Nat) : Fx M 0 := { hmx := mxd, nt := 23, cs := [q98.e K, q85.e K], cp := [(1, [.bool], [6])] }
noncomputable def f (K : Nat) (a0 : Bool) (a1 : List q0d) (a2 : List (List Int)) (a3 : List Int) (a4 : Bool) (a5 : List q0d) (a6 : List (List Int)) (a7 : List Int) : Option (Bool) := q1c ((q98.f K a0 a1 a2 a4 a5 a6).bind fun t => bif t then (q85.f K a3 a7).bind fun t => some t else some false) fun t => some t
noncomputable def e (K : Nat) : En M := fnE (X K) 157 Tryz.func157 ⟨(.cons (.agg (.cons (.fn 47 .unit .unit) (.cons (.fn 48 .unit .unit) (.cons (.fn 50 .unit .unit) (.fn 51 .unit .unit))))) (.cons (.agg (.cons (.ty .bool) (.cons (.ty (.slice q02)) (.cons (.ty (.slice (.slice yI))) (.ty (.slice yI)))))) (.agg (.cons (.ty .bool) (.cons (.ty (.slice q02)) (.cons (.ty (.slice (.slice yI))) (.ty (.slice yI)))))))), [], (.ty .bool), []⟩ [] (fun (x : ((((Unit × Unit) × ((Unit × Unit) × ((Unit × Unit) × (Unit × Unit)))) × ((Bool × ((List q0d) × ((List (List Int)) × (List Int)))) × (Bool × ((List q0d) × ((List (List Int)) × (List Int)))))) × Unit)) => f K x.1.2.1.1 x.1.2.1.2.1 x.1.2.1.2.2.1 x.1.2.1.2.2.2 x.1.2.2.1 x.1.2.2.2.1 x.1.2.2.2.2.1 x.1.2.2.2.2.2) (fun x r => (r, ())) fun (x : ((((Unit × Unit) × ((Unit × Unit) × ((Unit × Unit) × (Unit × Unit)))) × ((Bool × ((List q0d) × ((List (List Int)) × (List Int)))) × (Bool × ((List q0d) × ((List (List Int)) × (List Int)))))) × Unit)) => by
  refine Eq.trans ?_ q0b.symm
  rw [f]
  try simp only [el]
  kernel_rfl
end q5k
namespace q0r
noncomputable def X (K : Nat) : Fx M 0 := { hmx := mxd, nt := 32, cs := [q5k.e K] }
noncomputable def l0.f (K : Nat) : Nat → List q0j → List q0j → Int → Int → Option ((Unit) ⊕ (Bool))
  | 0, _, _, _, _ => none
  | k + 1, a0, a1, a2, a3 => bif decide (a3 < a2) then bif decide ((0 : Int) ≤ a3) && true then a1[a3.toNat]?.bind fun t => bif decide ((0 : Int) ≤ a3) && true then a0[a3.toNat]?.bind fun t_1 => (q5k.f K t.1.1 t.1.2.1 t.1.2.2 t.2 t_1.1.1 t_1.1.2.1 t_1.1.2.2 t_1.2).bind fun t => bif !t then some (Sum.inr false) else l0.f K k a0 a1 a2 (IntKind.i64.wrap (a3 + (1 : Int))) else none else none else some (Sum.inl ())
noncomputable def l0.b (K : Nat) : Lp M 0 := q37 (X K) 4 32 0 (q0o Tryz.f156 0) ⟨[1, 2, 15, 16, 17], (.cons (.ty (.slice q1g)) (.cons (.fn 157 (.agg (.cons (.fn 47 .unit .unit) (.cons (.fn 48 .unit .unit) (.cons (.fn 50 .unit .unit) (.fn 51 .unit .unit))))) .unit) (.cons (.ty (.slice q1g)) (.cons (.ty yI) (.ty yI))))), []⟩ ss13 ss95 K [] (fun k x => l0.f K k x.1.1 x.1.2.2.1 x.1.2.2.2.1 x.1.2.2.2.2) (fun x r => ((), ())) (fun x r => (r, ())) fun k x => by
  rw [q0b, l0.f]
  try simp only [el]
  kernel_rfl
noncomputable def f (K : Nat) (a0 : List q0j) (a1 : List q0j) : Option (Bool) := bif (↑a0.length : Int) != (↑a1.length : Int) then some false else (l0.f K K a1 a0 (↑a0.length : Int) (0 : Int)).bind fun t => Sum.elim (fun t => some true) (fun t => some t) t
noncomputable def e (K : Nat) : En M := fnE (X K) 156 Tryz.func156 ⟨(.cons (.ty (.slice q1g)) (.cons (.ty (.slice q1g)) (.fn 157 (.agg (.cons (.fn 47 .unit .unit) (.cons (.fn 48 .unit .unit) (.cons (.fn 50 .unit .unit) (.fn 51 .unit .unit))))) .unit))), [], (.ty .bool), []⟩ [l0.b K] (fun x => f K x.1.1 x.1.2.1) (fun x r => (r, ())) fun x => by
  rw [q0b, f]
  try simp only [el]
  kernel_rfl
end q0r
namespace q4i
noncomputable def X (K : Nat) : Fx M 0 := { hmx := mxd, nt := 23, cs := [q5x.e K, q0r.e K], cp := [(1, [.bool], [6])] }
noncomputable def f (K : Nat) (a0 : Bool) (a1 : List q0d) (a2 : Bool) (a3 : Int) (a4 : Bool) (a5 : Int) (a6 : Int) (a7 : Int) (a8 : Int) (a9 : List q0j) (a10 : Bool) (a11 : List q0d) (a12 : Bool) (a13 : Int) (a14 : Bool) (a15 : Int) (a16 : Int) (a17 : Int) (a18 : Int) (a19 : List q0j) : Option (Bool) := q1c ((q5x.f K a0 a1 a2 a3 a4 a5 a6 a7 a8 a10 a11 a12 a13 a14 a15 a16 a17 a18).bind fun t => bif t then (q0r.f K a9 a19).bind fun t => some t else some false) fun t => some t
noncomputable def e (K : Nat) : En M := fnE (X K) 96 Tryz.func96 ⟨(.cons (.agg (.cons (.fn 47 .unit .unit) (.cons (.fn 48 .unit .unit) (.cons (.fn 50 .unit .unit) (.fn 51 .unit .unit))))) (.cons (.agg (.cons (.ty .bool) (.cons (.ty (.slice q02)) (.cons (.ty .bool) (.cons (.ty yI) (.cons (.ty .bool) (.cons (.ty yI) (.cons (.ty yI) (.cons (.ty yI) (.cons (.ty yI) (.ty (.slice q1g)))))))))))) (.agg (.cons (.ty .bool) (.cons (.ty (.slice q02)) (.cons (.ty .bool) (.cons (.ty yI) (.cons (.ty .bool) (.cons (.ty yI) (.cons (.ty yI) (.cons (.ty yI) (.cons (.ty yI) (.ty (.slice q1g)))))))))))))), [], (.ty .bool), []⟩ [] (fun (x : ((((Unit × Unit) × ((Unit × Unit) × ((Unit × Unit) × (Unit × Unit)))) × ((Bool × ((List q0d) × (Bool × (Int × (Bool × (Int × (Int × (Int × (Int × (List q0j)))))))))) × (Bool × ((List q0d) × (Bool × (Int × (Bool × (Int × (Int × (Int × (Int × (List q0j)))))))))))) × Unit)) => f K x.1.2.1.1 x.1.2.1.2.1 x.1.2.1.2.2.1 x.1.2.1.2.2.2.1 x.1.2.1.2.2.2.2.1 x.1.2.1.2.2.2.2.2.1 x.1.2.1.2.2.2.2.2.2.1 x.1.2.1.2.2.2.2.2.2.2.1 x.1.2.1.2.2.2.2.2.2.2.2.1 x.1.2.1.2.2.2.2.2.2.2.2.2 x.1.2.2.1 x.1.2.2.2.1 x.1.2.2.2.2.1 x.1.2.2.2.2.2.1 x.1.2.2.2.2.2.2.1 x.1.2.2.2.2.2.2.2.1 x.1.2.2.2.2.2.2.2.2.1 x.1.2.2.2.2.2.2.2.2.2.1 x.1.2.2.2.2.2.2.2.2.2.2.1 x.1.2.2.2.2.2.2.2.2.2.2.2) (fun x r => (r, ())) fun (x : ((((Unit × Unit) × ((Unit × Unit) × ((Unit × Unit) × (Unit × Unit)))) × ((Bool × ((List q0d) × (Bool × (Int × (Bool × (Int × (Int × (Int × (Int × (List q0j)))))))))) × (Bool × ((List q0d) × (Bool × (Int × (Bool × (Int × (Int × (Int × (Int × (List q0j)))))))))))) × Unit)) => by
  refine Eq.trans ?_ q0b.symm
  rw [f]
  try simp only [el]
  kernel_rfl
end q4i
namespace q0w
noncomputable def X (K : Nat) : Fx M 0 := { hmx := mxd, nt := 32, cs := [q4i.e K] }
noncomputable def l0.f (K : Nat) : Nat → List q0l → List q0l → Int → Int → Option ((Unit) ⊕ (Bool))
  | 0, _, _, _, _ => none
  | k + 1, a0, a1, a2, a3 => bif decide (a3 < a2) then bif decide ((0 : Int) ≤ a3) && true then a1[a3.toNat]?.bind fun t => bif decide ((0 : Int) ≤ a3) && true then a0[a3.toNat]?.bind fun t_1 => (q4i.f K t.1.1 t.1.2.1 t.1.2.2.1 t.1.2.2.2.1 t.1.2.2.2.2.1.1 t.1.2.2.2.2.1.2 t.1.2.2.2.2.2.1.1 t.1.2.2.2.2.2.1.2 t.1.2.2.2.2.2.2 t.2 t_1.1.1 t_1.1.2.1 t_1.1.2.2.1 t_1.1.2.2.2.1 t_1.1.2.2.2.2.1.1 t_1.1.2.2.2.2.1.2 t_1.1.2.2.2.2.2.1.1 t_1.1.2.2.2.2.2.1.2 t_1.1.2.2.2.2.2.2 t_1.2).bind fun t => bif !t then some (Sum.inr false) else l0.f K k a0 a1 a2 (IntKind.i64.wrap (a3 + (1 : Int))) else none else none else some (Sum.inl ())
noncomputable def l0.b (K : Nat) : Lp M 0 := q37 (X K) 4 32 0 (q0o Tryz.f95 0) ⟨[1, 2, 15, 16, 17], (.cons (.ty (.slice q1r)) (.cons (.fn 96 (.agg (.cons (.fn 47 .unit .unit) (.cons (.fn 48 .unit .unit) (.cons (.fn 50 .unit .unit) (.fn 51 .unit .unit))))) .unit) (.cons (.ty (.slice q1r)) (.cons (.ty yI) (.ty yI))))), []⟩ ss13 ss95 K [] (fun k x => l0.f K k x.1.1 x.1.2.2.1 x.1.2.2.2.1 x.1.2.2.2.2) (fun x r => ((), ())) (fun x r => (r, ())) fun k x => by
  rw [q0b, l0.f]
  try simp only [el]
  kernel_rfl
noncomputable def f (K : Nat) (a0 : List q0l) (a1 : List q0l) : Option (Bool) := bif (↑a0.length : Int) != (↑a1.length : Int) then some false else (l0.f K K a1 a0 (↑a0.length : Int) (0 : Int)).bind fun t => Sum.elim (fun t => some true) (fun t => some t) t
noncomputable def e (K : Nat) : En M := fnE (X K) 95 Tryz.func95 ⟨(.cons (.ty (.slice q1r)) (.cons (.ty (.slice q1r)) (.fn 96 (.agg (.cons (.fn 47 .unit .unit) (.cons (.fn 48 .unit .unit) (.cons (.fn 50 .unit .unit) (.fn 51 .unit .unit))))) .unit))), [], (.ty .bool), []⟩ [l0.b K] (fun x => f K x.1.1 x.1.2.1) (fun x r => (r, ())) fun x => by
  rw [q0b, f]
  try simp only [el]
  kernel_rfl
end q0w
namespace q05
noncomputable def X (K : Nat) : Fx M 0 := { hmx := mxd, nt := 32, cs := [q5x.e K] }
noncomputable def l0.f (K : Nat) : Nat → List LSum → List LSum → Int → Int → Option ((Unit) ⊕ (Bool))
  | 0, _, _, _, _ => none
  | k + 1, a0, a1, a2, a3 => bif decide (a3 < a2) then bif decide ((0 : Int) ≤ a3) && true then a1[a3.toNat]?.bind fun t => bif decide ((0 : Int) ≤ a3) && true then a0[a3.toNat]?.bind fun t_1 => (q5x.f K t.1 t.2.1 t.2.2.1 t.2.2.2.1 t.2.2.2.2.1.1 t.2.2.2.2.1.2 t.2.2.2.2.2.1.1 t.2.2.2.2.2.1.2 t.2.2.2.2.2.2 t_1.1 t_1.2.1 t_1.2.2.1 t_1.2.2.2.1 t_1.2.2.2.2.1.1 t_1.2.2.2.2.1.2 t_1.2.2.2.2.2.1.1 t_1.2.2.2.2.2.1.2 t_1.2.2.2.2.2.2).bind fun t => bif !t then some (Sum.inr false) else l0.f K k a0 a1 a2 (IntKind.i64.wrap (a3 + (1 : Int))) else none else none else some (Sum.inl ())
noncomputable def l0.b (K : Nat) : Lp M 0 := q37 (X K) 4 32 0 (q0o Tryz.f97 0) ⟨[1, 2, 15, 16, 17], (.cons (.ty (.slice ySum)) (.cons (.fn 48 .unit .unit) (.cons (.ty (.slice ySum)) (.cons (.ty yI) (.ty yI))))), []⟩ ss13 ss95 K [] (fun k x => l0.f K k x.1.1 x.1.2.2.1 x.1.2.2.2.1 x.1.2.2.2.2) (fun x r => ((), ())) (fun x r => (r, ())) fun k x => by
  rw [q0b, l0.f]
  try simp only [el]
  kernel_rfl
noncomputable def f (K : Nat) (a0 : List LSum) (a1 : List LSum) : Option (Bool) := bif (↑a0.length : Int) != (↑a1.length : Int) then some false else (l0.f K K a1 a0 (↑a0.length : Int) (0 : Int)).bind fun t => Sum.elim (fun t => some true) (fun t => some t) t
noncomputable def e (K : Nat) : En M := fnE (X K) 97 Tryz.func97 ⟨(.cons (.ty (.slice ySum)) (.cons (.ty (.slice ySum)) (.fn 48 .unit .unit))), [], (.ty .bool), []⟩ [l0.b K] (fun x => f K x.1.1 x.1.2.1) (fun x r => (r, ())) fun x => by
  rw [q0b, f]
  try simp only [el]
  kernel_rfl
end q05
namespace q57
noncomputable def X (K : Nat) : Fx M 0 := { hmx := mxd, nt := 32, cs := [q0x.e K, q0w.e K, q05.e K], cp := [(1, [.bool], [6])] }
noncomputable def f (K : Nat) (a0 : List q0d) (a1 : List q0l) (a2 : List LSum) (a3 : List q0d) (a4 : List q0l) (a5 : List LSum) : Option (Bool) := q1c ((q0x.f K a0 a3).bind fun t => bif t then (q0w.f K a1 a4).bind fun t => bif t then (q05.f K a2 a5).bind fun t => some t else some false else some false) fun t => some t
noncomputable def e (K : Nat) : En M := fnE (X K) 52 Tryz.func52 ⟨(.cons (.agg (.cons (.fn 47 .unit .unit) (.cons (.fn 48 .unit .unit) (.cons (.fn 50 .unit .unit) (.fn 51 .unit .unit))))) (.cons (.agg (.cons (.ty (.slice q02)) (.cons (.ty (.slice q1r)) (.ty (.slice ySum))))) (.agg (.cons (.ty (.slice q02)) (.cons (.ty (.slice q1r)) (.ty (.slice ySum))))))), [], (.ty .bool), []⟩ [] (fun x => f K x.1.2.1.1 x.1.2.1.2.1 x.1.2.1.2.2 x.1.2.2.1 x.1.2.2.2.1 x.1.2.2.2.2) (fun x r => (r, ())) fun x => by
  rw [q0b, f]
  try simp only [el]
  kernel_rfl
end q57
namespace q70
noncomputable def f (K : Nat) (a0 : List q0d) (a1 : List q0l) (a2 : List LSum) (a3 : List q0d) (a4 : List q0l) (a5 : List LSum) : Option (Bool) := q57.f K a0 a1 a2 a3 a4 a5
noncomputable def e (K : Nat) : En M := fnE (m := 0) { hmx := mxd, nt := 13, cs := [q57.e K] } 12 Tryz.func12 ⟨(.cons (.agg (.cons (.ty (.slice q02)) (.cons (.ty (.slice q1r)) (.ty (.slice ySum))))) (.agg (.cons (.ty (.slice q02)) (.cons (.ty (.slice q1r)) (.ty (.slice ySum)))))), [], (.ty .bool), []⟩ [] (fun x => f K x.1.1.1 x.1.1.2.1 x.1.1.2.2 x.1.2.1 x.1.2.2.1 x.1.2.2.2) (fun x r => (r, ())) fun x => by
  rw [q0b, f]
  try simp only [el]
  kernel_rfl
end q70
namespace q1h
noncomputable def X (K : Nat) : Fx M 0 := { hmx := mxd, nt := 83, cs := [q4z.e K, q46.e K, q17.e K, q10.e K, q4j.e K, q18.e K, q3q.e K, z1a.e K, q70.e K], cp := [(2, [.bool], [28]), (13, [.bool], [82])] }
noncomputable def l0.f (K : Nat) : Nat → Int → List Int → List q0t → List q0h → List q0d → List q0l → List LSum → Option ((Unit) ⊕ (Bool))
  | 0, _, _, _, _, _, _, _ => none
  | k + 1, a0, a1, a2, a3, a4, a5, a6 => bif decide (a0 < (2 : Int)) then bif a0 == (1 : Int) then (q4j.f K a2 a4 a5 a6).bind fun t => (q18.f K a1 a2 a3 t.1 t.2.1 t.2.2 (a0 == (1 : Int))).bind fun t_1 => (q3q.f K t_1.1).bind fun t_2 => q1c (bif bif true then !t_1.2.isNil else t_1.2.isNil then some true else bif bif true then !t_2.2.2.2.2.2.2.2.isNil else t_2.2.2.2.2.2.2.2.isNil then some true else bif !t_2.2.2.2.2.2.2.1 == (a0 == (1 : Int)) then some true else (z1a.f K t_2.1 t_2.2.1 t_2.2.2.1 a1 a2 a3).bind fun t_3 => bif !t_3 then some true else (q70.f K t_2.2.2.2.1 t_2.2.2.2.2.1 t_2.2.2.2.2.2.1 t.1 t.2.1 t.2.2).bind fun t => some !t) fun t => bif t then some (Sum.inr false) else l0.f K k (IntKind.i64.wrap (a0 + (1 : Int))) a1 a2 a3 a4 a5 a6 else (q18.f K a1 a2 a3 a4 a5 a6 (a0 == (1 : Int))).bind fun t => (q3q.f K t.1).bind fun t_1 => q1c (bif bif true then !t.2.isNil else t.2.isNil then some true else bif bif true then !t_1.2.2.2.2.2.2.2.isNil else t_1.2.2.2.2.2.2.2.isNil then some true else bif !t_1.2.2.2.2.2.2.1 == (a0 == (1 : Int)) then some true else (z1a.f K t_1.1 t_1.2.1 t_1.2.2.1 a1 a2 a3).bind fun t => bif !t then some true else (q70.f K t_1.2.2.2.1 t_1.2.2.2.2.1 t_1.2.2.2.2.2.1 a4 a5 a6).bind fun t => some !t) fun t => bif t then some (Sum.inr false) else l0.f K k (IntKind.i64.wrap (a0 + (1 : Int))) a1 a2 a3 a4 a5 a6 else some (Sum.inl ())
noncomputable def l0.b (K : Nat) : Lp M 0 := q37 (X K) 6 83 0 (q0o Tryz.f5 0) ⟨[6, 7, 8], (.cons (.ptr 0 0) (.cons (.ptr 1 0) (.ty yI))), [hh62, hh8a]⟩ ss13 ss94 K [] (fun k x => l0.f K k x.1.2.2 x.2.1.1 x.2.1.2.1 x.2.1.2.2 x.2.2.1.1 x.2.2.1.2.1 x.2.2.1.2.2) (fun x r => ((), ())) (fun x r => (r, ())) fun k x => by
  rw [q0b, l0.f]
  try simp only [el]
  kernel_rfl
noncomputable def f (K : Nat) (a0 : List Int) (a1 : List q0t) (a2 : List q0h) (a3 : List q0d) (a4 : List q0l) (a5 : List LSum) : Option (Bool) := (q4z.f K a0 a1 a2 a3 a4 a5).bind fun t => q1c ((q46.f K).bind fun t_1 => bif !t_1 then some true else some !t.2.2.2.2.2.2) fun t_1 => bif t_1 then q46.f K else (q17.f K t.1 t.2.1 t.2.2.1).bind fun t_2 => (q10.f K t.2.2.2.1 t.2.2.2.2.1 t.2.2.2.2.2.1).bind fun t => (l0.f K K (0 : Int) t_2.1 t_2.2.1 t_2.2.2 t.1 t.2.1 t.2.2).bind fun t => Sum.elim (fun t => some true) (fun t => some t) t
noncomputable def e (K : Nat) : En M := fnE (X K) 5 Tryz.func5 ⟨sh4d, [], (.ty .bool), []⟩ [l0.b K] (fun x => f K x.1.1.1 x.1.1.2.1 x.1.1.2.2 x.1.2.1 x.1.2.2.1 x.1.2.2.2) (fun x r => (r, ())) fun x => by
  rw [q0b, f]
  try simp only [el]
  kernel_rfl
end q1h
end
end Go.Proofs.YtdjkdmjdcdljmaaGreatDoor.AF
namespace Go.Proofs.q0a.Runs
def q3x (n : Int) (s : List Int) : Prop := s.Pairwise (· < ·) ∧ ∀ x ∈ s, 0 ≤ x ∧ x < n
def q7j : List (Int × Int) → Int → List (Int × Int)
  | [], x => [(x, 1)]
  | [p], x => if p.1 + p.2 = x then [(p.1, p.2 + 1)] else [p, (x, 1)]
  | p :: q :: r, x => p :: q7j (q :: r) x
def expand (p : Int × Int) : List Int := (List.range p.2.toNat).map fun (i : Nat) => p.1 + (i : Int)
def sepR : Int → List (Int × Int) → Prop
  | _, [] => True
  | nx, p :: r => nx ≤ p.1 ∧ 1 ≤ p.2 ∧ sepR (p.1 + p.2 + 1) r
theorem z7p : ∀ {R : List (Int × Int)} {nx : Int} {p : Int × Int}, sepR nx R → R.getLast? = some p → nx ≤ p.1 ∧ 1 ≤ p.2
  | [], _, _, _, h => by simp at h
  | [q], nx, p, hs, h => by
    simp at h
    subst h
    exact ⟨hs.1, hs.2.1⟩
  | q :: q' :: r, nx, p, hs, h => by
    have h' : (q' :: r).getLast? = some p := by simpa using h
    have := z7p (R := q' :: r) hs.2.2 h'
    exact ⟨by have := hs.1; have := hs.2.1; omega, this.2⟩
theorem z6p : ∀ {R : List (Int × Int)} {nx x : Int}, sepR nx R → nx ≤ x → (∀ p, R.getLast? = some p → p.1 + p.2 ≤ x) → sepR nx (q7j R x)
  | [], nx, x, hs, hx, hl => ⟨hx, by simp, trivial⟩
  | [p], nx, x, hs, hx, hl => by
    have h1 := hl p (by simp)
    unfold q7j
    split
    · exact ⟨hs.1, by have := hs.2.1; simp only; omega, trivial⟩
    · exact ⟨hs.1, hs.2.1, by omega, by simp, trivial⟩
  | p :: q :: r, nx, x, hs, hx, hl => by
    refine ⟨hs.1, hs.2.1, z6p (R := q :: r) hs.2.2 ?_ fun y hy => hl y (by simpa using hy)⟩
    obtain ⟨y, hy⟩ : ∃ y, (q :: r).getLast? = some y := ⟨_, List.getLast?_eq_some_getLast (by simp)⟩
    have h1 := z7p hs.2.2 hy
    have h2 := hl y (by simpa using hy)
    omega
theorem j1e {p : Int × Int} (h : 0 ≤ p.2) : expand (p.1, p.2 + 1) = expand p ++ [p.1 + p.2] := by
  unfold expand
  have e : (p.2 + 1).toNat = p.2.toNat + 1 := by omega
  simp only [e, List.range_succ, List.map_append, List.map_cons, List.map_nil]
  rw [Int.toNat_of_nonneg h]
theorem z62 (x : Int) : expand (x, 1) = [x] := by simp [expand]
theorem z4i : ∀ {R : List (Int × Int)} {nx : Int} (x : Int), sepR nx R → (q7j R x).flatMap expand = R.flatMap expand ++ [x]
  | [], nx, x, hs => by simp [q7j, z62]
  | [p], nx, x, hs => by
    unfold q7j
    split
    · rename_i h
      have := hs.2.1
      simp only [List.flatMap_cons, List.flatMap_nil, List.append_nil, j1e (p := p) (by omega), h]
    · simp [z62]
  | p :: q :: r, nx, x, hs => by
    show (p :: q7j (q :: r) x).flatMap expand = _
    rw [List.flatMap_cons, z4i (R := q :: r) x hs.2.2]
    simp
theorem z4o {p : Int × Int} (h : 1 ≤ p.2) : p.1 + p.2 - 1 ∈ expand p := by
  unfold expand
  rw [List.mem_map]
  exact ⟨p.2.toNat - 1, by simp; omega, by omega⟩
theorem j23 {n : Int} : ∀ (s2 s1 : List Int) (R : List (Int × Int)), q3x n (s1 ++ s2) → sepR 0 R → R.flatMap expand = s1 → sepR 0 (s2.foldl q7j R) ∧ (s2.foldl q7j R).flatMap expand = s1 ++ s2
  | [], s1, R, h, hs, hf => ⟨hs, by simpa using hf⟩
  | x :: s2, s1, R, h, hs, hf => by
    have hx := h.2 x (by simp)
    have hp := (List.pairwise_append.1 h.1).2.2
    have h1 : sepR 0 (q7j R x) := z6p hs hx.1 fun p hl => by
      have hm : p ∈ R := List.mem_of_getLast? hl
      have := (z7p hs hl).2
      have hq : p.1 + p.2 - 1 ∈ s1 := by rw [← hf]; exact List.mem_flatMap.2 ⟨p, hm, z4o this⟩
      have := hp _ hq x (by simp)
      omega
    have h2 : (q7j R x).flatMap expand = s1 ++ [x] := by rw [z4i x hs, hf]
    have := j23 s2 (s1 ++ [x]) (q7j R x) (by simpa using h) h1 h2
    simpa using this
end Go.Proofs.q0a.Runs
namespace Go.Proofs.q0a.Runs
def j4c (j : Int) (v : BitVec 8) (x : Int) : BitVec 8 := if x / 8 = j then v ||| BitVec.twoPow 8 (x % 8).toNat else v
def z3o (s : List Int) (j : Int) : BitVec 8 := s.foldl (j4c j) 0#8
theorem j4z (s : List Int) (x j : Int) : z3o (s ++ [x]) j = j4c j (z3o s j) x := by simp [z3o]
theorem j32 {j : Int} {i : Nat} (hi : i < 8) : ∀ (s : List Int) (v : BitVec 8), (s.foldl (j4c j) v).getLsbD i = (v.getLsbD i || decide (8 * j + (i : Int) ∈ s))
  | [], v => by simp
  | x :: s, v => by
    rw [List.foldl_cons, j32 hi s]
    by_cases hx : x / 8 = j
    · have e : j4c j v x = v ||| BitVec.twoPow 8 (x % 8).toNat := if_pos hx
      rw [e, BitVec.getLsbD_or, BitVec.getLsbD_twoPow]
      by_cases hq : 8 * j + (i : Int) = x
      · have h1 : (x % 8).toNat = i := by omega
        simp [h1, hi, hq]
      · have h1 : ¬ (x % 8).toNat = i := by omega
        simp [h1, hq]
    · have e : j4c j v x = v := if_neg hx
      have hq : ¬ 8 * j + (i : Int) = x := by omega
      rw [e]
      simp [hq]
theorem byteS_bit {s : List Int} {j : Int} {i : Nat} (hi : i < 8) : (z3o s j).getLsbD i = decide (8 * j + (i : Int) ∈ s) := by
  unfold z3o
  rw [j32 hi]
  simp
theorem filt_in {n i : Int} : ∀ {s : List Int}, s.Pairwise (· < ·) → i ∈ s → s.filter (fun x => decide (x < i + 1)) = s.filter (fun x => decide (x < i)) ++ [i]
  | [], _, h => by simp at h
  | x :: s, hp, h => by
    have hp' := List.pairwise_cons.1 hp
    by_cases hx : x = i
    · subst hx
      have e1 : s.filter (fun y => decide (y < x + 1)) = [] := List.filter_eq_nil_iff.2 fun y hy => by have := hp'.1 y hy; simp; omega
      have e2 : s.filter (fun y => decide (y < x)) = [] := List.filter_eq_nil_iff.2 fun y hy => by have := hp'.1 y hy; simp; omega
      rw [List.filter_cons_of_pos (by simp; omega), List.filter_cons_of_neg (by simp), e1, e2]
      rfl
    · have hs : i ∈ s := by simpa [Ne.symm hx] using h
      have := hp'.1 i hs
      rw [List.filter_cons_of_pos (by simp; omega), List.filter_cons_of_pos (by simp; omega), filt_in (n := n) hp'.2 hs]
      rfl
theorem filt_out {i : Int} {s : List Int} (h : i ∉ s) : s.filter (fun x => decide (x < i + 1)) = s.filter (fun x => decide (x < i)) := by
  refine List.filter_congr fun x hx => ?_
  have : x ≠ i := fun e => h (e ▸ hx)
  have e : (x < i + 1) ↔ (x < i) := by omega
  simp [e]
theorem filt_all {n : Int} {s : List Int} (h : ∀ x ∈ s, x < n) : s.filter (fun x => decide (x < n)) = s := List.filter_eq_self.2 fun x hx => by simp [h x hx]
theorem filt_none {s : List Int} (h : ∀ x ∈ s, 0 ≤ x) : s.filter (fun x => decide (x < 0)) = [] := List.filter_eq_nil_iff.2 fun x hx => by have := h x hx; simp; omega
theorem wrap_u8 {n : Int} (h1 : 0 ≤ n) (h2 : n < 256) : IntKind.u8.wrap n = n := by
  rw [show IntKind.u8.wrap n = n % 256 by simp [Go.IntKind.wrap, Go.IntKind.bits, Go.IntKind.signed]]; omega
theorem put_bit (v : BitVec 8) {k : Nat} (hk : k < 8) : IntKind.u8.wrap (((BitVec.ofInt 8 ((v.toNat : Nat) : Int) ||| BitVec.ofInt 8 (IntKind.u8.wrap ((1 : Int) * (2 : Int) ^ min k 8))).toNat : Nat) : Int) = (((v ||| BitVec.twoPow 8 k).toNat : Nat) : Int) := by
  have e1 : BitVec.ofInt 8 ((v.toNat : Nat) : Int) = v := by rw [BitVec.ofInt_natCast, BitVec.ofNat_toNat, BitVec.setWidth_eq]
  have e2 : BitVec.ofInt 8 (IntKind.u8.wrap ((1 : Int) * (2 : Int) ^ min k 8)) = BitVec.twoPow 8 k := by
    have : ∀ k : Fin 8, BitVec.ofInt 8 (IntKind.u8.wrap ((1 : Int) * (2 : Int) ^ min k.val 8)) = BitVec.twoPow 8 k.val := by decide +kernel
    exact this ⟨k, hk⟩
  rw [e1, e2, wrap_u8 (by omega) (by have := (v ||| BitVec.twoPow 8 k).isLt; omega)]
theorem get_bit (v : BitVec 8) {k : Nat} (hk : k < 8) : (IntKind.u8.wrap (((BitVec.ofInt 8 (Int.fdiv ((v.toNat : Nat) : Int) ((2 : Int) ^ min k 8)) &&& BitVec.ofInt 8 (1 : Int)).toNat : Nat) : Int) == (0 : Int)) = !v.getLsbD k := by
  have : ∀ (v : Fin 256) (k : Fin 8), (IntKind.u8.wrap (((BitVec.ofInt 8 (Int.fdiv ((v.val : Nat) : Int) ((2 : Int) ^ min k.val 8)) &&& BitVec.ofInt 8 (1 : Int)).toNat : Nat) : Int) == (0 : Int)) = !Nat.testBit v.val k.val := by decide +kernel
  exact this ⟨v.toNat, v.isLt⟩ ⟨k, hk⟩
end Go.Proofs.q0a.Runs
namespace Go.Proofs.q0a.Runs
set_option maxRecDepth 100000
def bn (b : Bool) : Nat := if b then 1 else 0
def hB (s p : Nat) (k l h : Bool) : Nat := s + 8 * bn k + 16 * p + 64 * bn l + 128 * bn h
def hOr (s p : Int) : Int := IntKind.i64.wrap (((BitVec.ofInt 64 s ||| BitVec.ofInt 64 (IntKind.i64.wrap (p * (2 : Int) ^ 4))).toNat : Nat) : Int)
def hAdd (b : Bool) (x c : Int) : Int := if b then IntKind.i64.wrap (((BitVec.ofInt 64 x ||| BitVec.ofInt 64 c).toNat : Nat) : Int) else x
theorem put_h : ∀ (s : Fin 8) (p : Fin 4) (k l h : Bool), IntKind.u8.wrap (hAdd h (hAdd l (hAdd k (hOr (s.val : Nat) (p.val : Nat)) 8) 64) 128) = ((hB s.val p.val k l h : Nat) : Int) := by decide +kernel
theorem z9r : ∀ (s : Fin 8) (p : Fin 4) (k l h : Bool), IntKind.i64.wrap (IntKind.u8.wrap (((BitVec.ofInt 8 ((hB s.val p.val k l h : Nat) : Int) &&& BitVec.ofInt 8 (7 : Int)).toNat : Nat) : Int)) = (s.val : Nat) := by decide +kernel
theorem j0e : ∀ (s : Fin 8) (p : Fin 4) (k l h : Bool), IntKind.i64.wrap (IntKind.u8.wrap (((BitVec.ofInt 8 (Int.fdiv ((hB s.val p.val k l h : Nat) : Int) ((2 : Int) ^ 4)) &&& BitVec.ofInt 8 (3 : Int)).toNat : Nat) : Int)) = (p.val : Nat) := by decide +kernel
theorem z91 : ∀ (s : Fin 8) (p : Fin 4) (k l h : Bool), (IntKind.u8.wrap (((BitVec.ofInt 8 ((hB s.val p.val k l h : Nat) : Int) &&& BitVec.ofInt 8 (8 : Int)).toNat : Nat) : Int) == (0 : Int)) = !k := by decide +kernel
theorem z8s : ∀ (s : Fin 8) (p : Fin 4) (k l h : Bool), (IntKind.u8.wrap (((BitVec.ofInt 8 ((hB s.val p.val k l h : Nat) : Int) &&& BitVec.ofInt 8 (64 : Int)).toNat : Nat) : Int) == (0 : Int)) = !l := by decide +kernel
theorem j0f : ∀ (s : Fin 8) (p : Fin 4) (k l h : Bool), (IntKind.u8.wrap (((BitVec.ofInt 8 ((hB s.val p.val k l h : Nat) : Int) &&& BitVec.ofInt 8 (128 : Int)).toNat : Nat) : Int) == (0 : Int)) = !h := by decide +kernel
theorem hB_lt : ∀ (s : Fin 8) (p : Fin 4) (k l h : Bool), hB s.val p.val k l h < 256 := by decide +kernel
end Go.Proofs.q0a.Runs
namespace Go.Proofs.YtdjkdmjdcdljmaaGreatDoor.AF
open Go.Proofs.q0a
theorem q00 {n : Int} (h1 : -9223372036854775808 ≤ n) (h2 : n < 9223372036854775808) : IntKind.i64.wrap n = n := by
  rw [Go.IntKind.wrap_i64]; omega
theorem q4b {n : Int} (h1 : 0 ≤ n) (h2 : n < 18446744073709551616) : IntKind.u64.wrap n = n := by
  rw [show IntKind.u64.wrap n = n % 18446744073709551616 by simp [Go.IntKind.wrap, Go.IntKind.bits, Go.IntKind.signed]]; omega
theorem q90 {n : Int} (h1 : 0 ≤ n) (h2 : n < 256) : IntKind.u8.wrap n = n := by
  rw [show IntKind.u8.wrap n = n % 256 by simp [Go.IntKind.wrap, Go.IntKind.bits, Go.IntKind.signed]]; omega
theorem q2w {α : Type} {l l1 l2 : List α} {x : α} (h : l = l1 ++ x :: l2) : l[((l1.length : Nat) : Int).toNat]? = some x := by
  subst h; simp
theorem q2b {α : Type} {l l1 l2 : List α} {x : α} (h : l = l1 ++ x :: l2) : decide (((l1.length : Nat) : Int) < ((l.length : Nat) : Int)) = true := by
  subst h; simp; omega
theorem q2e {α : Type} {l l1 : List α} (h : l = l1 ++ []) : decide (((l1.length : Nat) : Int) < ((l.length : Nat) : Int)) = false := by
  subst h; simp
theorem ge0 {n : Nat} : (decide ((0 : Int) ≤ ((n : Nat) : Int)) && true) = true := by simp
theorem ge0' {n : Nat} : decide ((0 : Int) ≤ ((n : Nat) : Int)) = true := by simp
theorem q0y {α : Type} {l1 : List α} {x : α} (h : l1.length < 1000000000) : IntKind.i64.wrap (((l1.length : Nat) : Int) + (1 : Int)) = (((l1 ++ [x]).length : Nat) : Int) := by
  rw [q00 (by omega) (by omega)]; simp
theorem q09 {α : Type} {l l1 l2 : List α} {x : α} (h : l = l1 ++ x :: l2) : l = (l1 ++ [x]) ++ l2 := by subst h; simp
theorem q2c {A B : Type} {a : A} {f : A → Option B} : q1c (some a) f = f a := rfl
theorem q03 {A B : Type} {o : Option A} {f : A → Option B} : q1c o f = o.bind f := rfl
theorem min6 {n : Nat} {c : Int} (hc : 0 ≤ c) : (decide (((0 : Nat) : Int) ≤ if c < (n : Int) then c else (n : Int)) && decide ((if c < (n : Int) then c else (n : Int)) ≤ (n : Int)) && true) = true := by
  split <;> simp <;> omega
theorem j0y {α : Type} {l : List α} {c : Int} (hc : 0 ≤ c) : List.take (if c < (l.length : Int) then c else (l.length : Int)).toNat l = l.take c.toNat := by
  split
  · rfl
  · rename_i h
    rw [List.take_of_length_le (i := c.toNat) (by omega)]
    simp
end Go.Proofs.YtdjkdmjdcdljmaaGreatDoor.AF
namespace Go.Proofs.YtdjkdmjdcdljmaaGreatDoor.AF
open Go.Proofs.q0a
set_option maxRecDepth 100000
variable {K : Nat}
def fewI (x : q32) : q32 := (x.1, x.2.1, x.2.2.1, x.2.2.2.1, x.2.2.2.2.1, x.2.2.2.2.2.take 6)
def fewB (b : q1k) : q1k := ((b.1.take 14).map fewI, b.2)
def fewF (f : q0t) : q0t := (f.1, f.2.1, f.2.2.1, (f.2.2.2.take 14).map fewB)
theorem few_l2 {b : q1k} {a1 : Int} {a11 : List q1k} (h1 : 0 ≤ a1) (hb : a11[a1.toNat]? = some b) : ∀ (k : Nat) (acc : List q32), 14 < k + acc.length → acc.length ≤ 14 →
    q14.l2.f K k a1 ((acc.length : Nat) : Int) a11 acc = some (acc ++ ((b.1.drop acc.length).take (14 - acc.length)).map fewI)
  | 0, acc, hk, hl => by omega
  | k + 1, acc, hk, hl => by
    rw [q14.l2.f]
    simp only [h1, hb, decide_true, Bool.and_true, cond_true, q0c, q03]
    by_cases hlt : acc.length < b.1.length
    · have e1 : decide (((acc.length : Nat) : Int) < ((b.1.length : Nat) : Int)) = true := by simp; omega
      by_cases h14 : acc.length < 14
      · have e2 : decide (((acc.length : Nat) : Int) < (14 : Int)) = true := by simp; omega
        have e3 : b.1[((acc.length : Nat) : Int).toNat]? = some b.1[acc.length] := by simp [hlt]
        simp only [e1, e2, cond_true, q0c, ge0', e3]
        have m6 := @min6 (b.1[acc.length].2.2.2.2.2.length) 6 (by omega)
        rw [Bool.and_true] at m6
        simp only [m6, cond_true, j0y (l := b.1[acc.length].2.2.2.2.2) (c := 6) (by omega), List.drop_zero]
        rw [q0y (x := fewI b.1[acc.length]) (by omega)]
        have e4 : Nat.ble (acc.length + [(b.1[acc.length].1, b.1[acc.length].2.1, b.1[acc.length].2.2.1, b.1[acc.length].2.2.2.1, b.1[acc.length].2.2.2.2.1, List.take (6 : Int).toNat b.1[acc.length].2.2.2.2.2)].length) 1000000 = true := by
          simp [Nat.ble_eq]; omega
        simp only [e4, cond_true]
        have ih := few_l2 h1 hb k (acc ++ [fewI b.1[acc.length]]) (by simp; omega) (by simp; omega)
        refine Eq.trans ih ?_
        rw [List.drop_eq_getElem_cons hlt]
        have : 14 - acc.length = (14 - (acc.length + 1)) + 1 := by omega
        rw [this, List.take_succ_cons]
        simp
      · have e2 : decide (((acc.length : Nat) : Int) < (14 : Int)) = false := by simp; omega
        simp only [e1, e2, cond_true, cond_false, q0c]
        have : 14 - acc.length = 0 := by omega
        simp [this]
    · have e1 : decide (((acc.length : Nat) : Int) < ((b.1.length : Nat) : Int)) = false := by simp; omega
      simp only [e1, cond_false, q0c]
      rw [List.drop_of_length_le (by omega)]
      simp
theorem few_l1 (hK : 100 ≤ K) {bs : List q1k} : ∀ (k : Nat) (acc : List q1k), 14 < k + acc.length → acc.length ≤ 14 →
    q14.l1.f K k ((acc.length : Nat) : Int) bs acc = some (acc ++ ((bs.drop acc.length).take (14 - acc.length)).map fewB)
  | 0, acc, hk, hl => by omega
  | k + 1, acc, hk, hl => by
    rw [q14.l1.f]
    simp only [q03]
    by_cases hlt : acc.length < bs.length
    · have e1 : decide (((acc.length : Nat) : Int) < ((bs.length : Nat) : Int)) = true := by simp; omega
      by_cases h14 : acc.length < 14
      · have e2 : decide (((acc.length : Nat) : Int) < (14 : Int)) = true := by simp; omega
        have e3 : bs[((acc.length : Nat) : Int).toNat]? = some bs[acc.length] := by simp [hlt]
        have l2 := few_l2 (K := K) (b := bs[acc.length]) (a1 := ((acc.length : Nat) : Int)) (a11 := bs) (by omega) e3 K [] (by simp; omega) (by simp)
        simp only [List.length_nil, List.drop_zero, List.nil_append, Nat.sub_zero] at l2
        have l2' : q14.l2.f K K ((acc.length : Nat) : Int) (0 : Int) bs [] = some ((bs[acc.length].1.take 14).map fewI) := l2
        simp only [e1, e2, cond_true, q0c, ge0, e3, l2']
        rw [q0y (x := fewB bs[acc.length]) (by omega)]
        have e4 : Nat.ble (acc.length + [((bs[acc.length].1.take 14).map fewI, bs[acc.length].2.1, bs[acc.length].2.2.1, bs[acc.length].2.2.2.1, bs[acc.length].2.2.2.2)].length) 1000000 = true := by
          simp [Nat.ble_eq]; omega
        simp only [e4, cond_true]
        have ih := few_l1 hK (bs := bs) k (acc ++ [fewB bs[acc.length]]) (by simp; omega) (by simp; omega)
        refine Eq.trans ih ?_
        rw [List.drop_eq_getElem_cons hlt]
        have : 14 - acc.length = (14 - (acc.length + 1)) + 1 := by omega
        rw [this, List.take_succ_cons]
        simp
      · have e2 : decide (((acc.length : Nat) : Int) < (14 : Int)) = false := by simp; omega
        simp only [e1, e2, cond_true, cond_false, q0c]
        have : 14 - acc.length = 0 := by omega
        simp [this]
    · have e1 : decide (((acc.length : Nat) : Int) < ((bs.length : Nat) : Int)) = false := by simp; omega
      simp only [e1, cond_false, q0c]
      rw [List.drop_of_length_le (by omega)]
      simp
theorem few_l0 (hK : 100 ≤ K) {fs : List q0t} : ∀ (k : Nat) (acc : List q0t), 30 < k + acc.length → acc.length ≤ 30 →
    q14.l0.f K k ((acc.length : Nat) : Int) fs acc = some (acc ++ ((fs.drop acc.length).take (30 - acc.length)).map fewF)
  | 0, acc, hk, hl => by omega
  | k + 1, acc, hk, hl => by
    rw [q14.l0.f]
    simp only [q03]
    by_cases hlt : acc.length < fs.length
    · have e1 : decide (((acc.length : Nat) : Int) < ((fs.length : Nat) : Int)) = true := by simp; omega
      by_cases h14 : acc.length < 30
      · have e2 : decide (((acc.length : Nat) : Int) < (30 : Int)) = true := by simp; omega
        have e3 : fs[((acc.length : Nat) : Int).toNat]? = some fs[acc.length] := by simp [hlt]
        have l1 := few_l1 (K := K) hK (bs := fs[acc.length].2.2.2) K [] (by simp; omega) (by simp)
        simp only [List.length_nil, List.drop_zero, List.nil_append, Nat.sub_zero] at l1
        have l1' : q14.l1.f K K (0 : Int) fs[acc.length].2.2.2 [] = some ((fs[acc.length].2.2.2.take 14).map fewB) := l1
        simp only [e1, e2, cond_true, q0c, ge0, e3, l1']
        rw [q0y (x := fewF fs[acc.length]) (by omega)]
        have e4 : Nat.ble (acc.length + [(fs[acc.length].1, fs[acc.length].2.1, fs[acc.length].2.2.1, (fs[acc.length].2.2.2.take 14).map fewB)].length) 1000000 = true := by
          simp [Nat.ble_eq]; omega
        simp only [e4, cond_true]
        have ih := few_l0 hK (fs := fs) k (acc ++ [fewF fs[acc.length]]) (by simp; omega) (by simp; omega)
        refine Eq.trans ih ?_
        rw [List.drop_eq_getElem_cons hlt]
        have : 30 - acc.length = (30 - (acc.length + 1)) + 1 := by omega
        rw [this, List.take_succ_cons]
        simp
      · have e2 : decide (((acc.length : Nat) : Int) < (30 : Int)) = false := by simp; omega
        simp only [e1, e2, cond_true, cond_false, q0c]
        have : 30 - acc.length = 0 := by omega
        simp [this]
    · have e1 : decide (((acc.length : Nat) : Int) < ((fs.length : Nat) : Int)) = false := by simp; omega
      simp only [e1, cond_false, q0c]
      rw [List.drop_of_length_le (by omega)]
      simp
theorem few_val (hK : 100 ≤ K) (a0 : List Int) (a1 : List q0t) (a2 : List q0h) : q14.f K a0 a1 a2 = some (a0.take 20, (a1.take 30).map fewF, a2.take 30) := by
  unfold q14.f
  have l0 := few_l0 (K := K) hK (fs := a1) K [] (by simp; omega) (by simp)
  simp only [List.length_nil, List.drop_zero, List.nil_append, Nat.sub_zero] at l0
  have l0' : q14.l0.f K K (0 : Int) a1 [] = some ((a1.take 30).map fewF) := l0
  simp only [min6 (n := a0.length) (c := 20) (by omega), min6 (n := a2.length) (c := 30) (by omega), cond_true, l0', q0c, j0y (l := a0) (c := 20) (by omega), j0y (l := a2) (c := 30) (by omega), List.drop_zero]
  rfl
theorem insn4_val {a : List Int} (h : a.length ≤ 1000) : q5a.f K a = some a := by
  unfold q5a.f
  have : Nat.ble (0 + a.length) 1000000 = true := by simp [Nat.ble_eq]; omega
  simp only [this, cond_true, List.nil_append]
theorem j39 {b : q1k} {a0 : Int} {a5 : List q1k} (h1 : 0 ≤ a0) (hb : a5[a0.toNat]? = some b) (hs : b.1.length ≤ 1000) (ha : ∀ x ∈ b.1, x.2.2.2.2.2.length ≤ 1000) : ∀ (l2 l1 : List q32) (k : Nat), b.1 = l1 ++ l2 → l2.length < k →
    q2t.l1.f K k a0 ((l1.length : Nat) : Int) a5 l1 = some b.1
  | l2, l1, 0, h, hk => by omega
  | [], l1, k + 1, h, hk => by
    rw [q2t.l1.f]
    simp only [h1, hb, decide_true, Bool.and_true, cond_true, q0c, q2e h, cond_false]
    rw [h]; simp
  | x :: l2, l1, k + 1, h, hk => by
    rw [q2t.l1.f]
    have hx := ha x (by rw [h]; simp)
    have hl : l1.length + 1 + l2.length ≤ 1000 := by rw [h] at hs; simp at hs; omega
    simp only [h1, hb, decide_true, Bool.and_true, cond_true, q0c, q2b h, ge0', q2w h, insn4_val hx]
    rw [q0y (x := x) (by omega)]
    have e4 : Nat.ble (l1.length + [(x.1, x.2.1, x.2.2.1, x.2.2.2.1, x.2.2.2.2.1, x.2.2.2.2.2)].length) 1000000 = true := by
      simp [Nat.ble_eq]; omega
    simp only [e4, cond_true]
    exact j39 h1 hb hs ha l2 (l1 ++ [x]) k (q09 h) (by simp at hk; omega)
def fits (fs : List q0t) : Prop := fs.length ≤ 1000 ∧ ∀ f ∈ fs, f.2.2.2.length ≤ 1000 ∧ ∀ b ∈ f.2.2.2, b.1.length ≤ 1000 ∧ ∀ x ∈ b.1, x.2.2.2.2.2.length ≤ 1000
theorem j2e (hK : 2000 ≤ K) {bs : List q1k} (hl : bs.length ≤ 1000) (hf : ∀ b ∈ bs, b.1.length ≤ 1000 ∧ ∀ x ∈ b.1, x.2.2.2.2.2.length ≤ 1000) : ∀ (l2 l1 : List q1k) (k : Nat), bs = l1 ++ l2 → l2.length < k →
    q2t.l0.f K k ((l1.length : Nat) : Int) bs l1 = some bs
  | l2, l1, 0, h, hk => by omega
  | [], l1, k + 1, h, hk => by
    rw [q2t.l0.f]
    simp only [q2e h, cond_false]
    rw [h]; simp
  | x :: l2, l1, k + 1, h, hk => by
    rw [q2t.l0.f]
    obtain ⟨q1, q2⟩ := hf x (by rw [h]; simp)
    have hl2 : l1.length + 1 + l2.length ≤ 1000 := by rw [h] at hl; simp at hl; omega
    have l1v := j39 (K := K) (b := x) (a0 := ((l1.length : Nat) : Int)) (a5 := bs) (by omega) (q2w h) q1 q2 x.1 [] K (by simp) (by omega)
    have l1v' : q2t.l1.f K K ((l1.length : Nat) : Int) (0 : Int) bs [] = some x.1 := l1v
    simp only [q2b h, ge0, q2w h, cond_true, q0c, q6s.f, l1v']
    rw [q0y (x := x) (by omega)]
    have e4 : Nat.ble (l1.length + [(x.1, x.2.1, x.2.2.1, x.2.2.2.1, x.2.2.2.2)].length) 1000000 = true := by simp [Nat.ble_eq]; omega
    simp only [e4, cond_true]
    exact j2e hK hl hf l2 (l1 ++ [x]) k (q09 h) (by simp at hk; omega)
theorem func4_val (hK : 2000 ≤ K) {bs : List q1k} (hl : bs.length ≤ 1000) (hf : ∀ b ∈ bs, b.1.length ≤ 1000 ∧ ∀ x ∈ b.1, x.2.2.2.2.2.length ≤ 1000) : q2t.f K bs = some bs :=
  j2e hK hl hf bs [] K rfl (by omega)
theorem to_l0 (hK : 2000 ≤ K) {fs : List q0t} (hf : fits fs) : ∀ (l2 l1 : List q0t) (k : Nat), fs = l1 ++ l2 → l2.length < k → q17.l0.f K k ((l1.length : Nat) : Int) fs l1 = some fs
  | l2, l1, 0, h, hk => by omega
  | [], l1, k + 1, h, hk => by
    rw [q17.l0.f]
    simp only [q2e h, cond_false]
    rw [h]; simp
  | x :: l2, l1, k + 1, h, hk => by
    rw [q17.l0.f]
    obtain ⟨q1, q2⟩ := hf.2 x (by rw [h]; simp)
    have hl2 : l1.length + 1 + l2.length ≤ 1000 := by have := hf.1; rw [h] at this; simp at this; omega
    simp only [q2b h, ge0, q2w h, cond_true, q0c, func4_val hK q1 q2]
    rw [q0y (x := x) (by omega)]
    have e4 : Nat.ble (l1.length + [(x.1, x.2.1, x.2.2.1, x.2.2.2)].length) 1000000 = true := by simp [Nat.ble_eq]; omega
    simp only [e4, cond_true]
    exact to_l0 hK hf l2 (l1 ++ [x]) k (q09 h) (by simp at hk; omega)
theorem to_l1 {is : List q0h} (hl : is.length ≤ 1000) : ∀ (l2 l1 : List q0h) (k : Nat), is = l1 ++ l2 → l2.length < k → q17.l1.f K k ((l1.length : Nat) : Int) is l1 = some is
  | l2, l1, 0, h, hk => by omega
  | [], l1, k + 1, h, hk => by
    rw [q17.l1.f]
    simp only [q2e h, cond_false]
    rw [h]; simp
  | x :: l2, l1, k + 1, h, hk => by
    rw [q17.l1.f]
    have hl2 : l1.length + 1 + l2.length ≤ 1000 := by have := hl; rw [h] at this; simp at this; omega
    simp only [q2b h, ge0, q2w h, cond_true, q0c]
    rw [q0y (x := x) (by omega)]
    have e4 : Nat.ble (l1.length + [(x.1, x.2)].length) 1000000 = true := by simp [Nat.ble_eq]; omega
    simp only [e4, cond_true]
    exact to_l1 hl l2 (l1 ++ [x]) k (q09 h) (by simp at hk; omega)
theorem to_val (hK : 2000 ≤ K) {a0 : List Int} {a1 : List q0t} {a2 : List q0h} (h0 : a0.length ≤ 1000) (h1 : fits a1) (h2 : a2.length ≤ 1000) : q17.f K a0 a1 a2 = some (a0, a1, a2) := by
  unfold q17.f
  have e : Nat.ble (0 + a0.length) 1000000 = true := by simp [Nat.ble_eq]; omega
  have l0 : q17.l0.f K K (0 : Int) a1 [] = some a1 := to_l0 hK h1 a1 [] K rfl (by have := h1.1; omega)
  have l1 : q17.l1.f K K (0 : Int) a2 [] = some a2 := to_l1 h2 a2 [] K rfl (by omega)
  simp only [e, cond_true, l0, l1, q0c, List.nil_append]
end Go.Proofs.YtdjkdmjdcdljmaaGreatDoor.AF
namespace Go.Proofs.YtdjkdmjdcdljmaaGreatDoor.AF
open Go.Proofs.q0a
set_option maxRecDepth 100000
variable {K : Nat}
def j41 (v : Int) : Bool := (decide (97 ≤ v) && decide (v ≤ 122)) || (decide (48 ≤ v) && decide (v ≤ 57))
def j37 (s : ByteArray) : Prop := 1 ≤ s.size ∧ s.size ≤ 12 ∧ (∀ v, (bytesOf s)[0]? = some v → 97 ≤ v ∧ v ≤ 122) ∧ ∀ v ∈ bytesOf s, j41 v = true
theorem q3o (s : ByteArray) : (bytesOf s).length = s.size := by unfold bytesOf; rw [List.length_map]; rfl
theorem z5j {s : ByteArray} {i : Nat} (h : i < s.size) : ((s[i]?.getD (0 : UInt8)).toNat : Int) = (bytesOf s)[i]'(by rw [q3o]; exact h) := by
  have h2 : s[i]? = some s[i] := getElem?_pos s i h
  rw [h2]
  simp only [Option.getD_some, bytesOf, List.getElem_map]
  rfl
theorem z9y {s : ByteArray} (hs : s.size ≤ 12) : ∀ (n : Nat) (k i : Nat), s.size - i ≤ n → n < k → i ≤ s.size → ∃ r, q26.l0.f K k s ((i : Nat) : Int) = some r ∧ (r = .inl () → ∀ j v, i ≤ j → (bytesOf s)[j]? = some v → j41 v = true) ∧ ∀ b, r = .inr b → b = false
  | n, 0, i, hn, hk, hi => by omega
  | n, k + 1, i, hn, hk, hi => by
    rw [q26.l0.f]
    by_cases hlt : i < s.size
    · have e1 : decide (((i : Nat) : Int) < ((s.size : Nat) : Int)) = true := by simp; omega
      have e2 : Nat.blt ((i : Nat) : Int).toNat s.size = true := Nat.ble_eq_true_of_le (show ((i : Nat) : Int).toNat + 1 ≤ s.size by simp; omega)
      have e3 : ((s[((i : Nat) : Int).toNat]?.getD (0 : UInt8)).toNat : Int) = (bytesOf s)[i]'(by rw [q3o]; exact hlt) := z5j hlt
      simp only [e1, e2, ge0', cond_true, e3]
      generalize hv : (bytesOf s)[i]'(by rw [q3o]; exact hlt) = v
      have w : IntKind.i64.wrap (((i : Nat) : Int) + (1 : Int)) = ((i + 1 : Nat) : Int) := by rw [q00 (by omega) (by omega)]; simp
      have key : ∃ b : Bool, (bif decide (v < (97 : Int)) then bif decide (v < (48 : Int)) then some true else some (decide (v > (57 : Int))) else bif decide (v > (122 : Int)) then bif decide (v < (48 : Int)) then some true else some (decide (v > (57 : Int))) else some false) = some b ∧ (b = false → j41 v = true) := by
        simp only [Bool.cond_eq_ite, decide_eq_true_eq, j41]
        repeat' split
        all_goals (refine ⟨_, rfl, fun h => ?_⟩; first | (cases h; done) | (simp at h ⊢; omega) | (simp; omega))
      obtain ⟨b, hb, hg⟩ := key
      rw [hb]
      cases b with
      | true => exact ⟨_, rfl, (fun h => by cases h), (fun b h => by cases h; rfl)⟩
      | false =>
        simp only [q03, q0c, cond_false, w]
        match n, hk with
        | 0, _ => omega
        | n + 1, hk =>
          obtain ⟨r, h1, h2, h3⟩ := z9y hs n k (i + 1) (by omega) (by omega) (by omega)
          refine ⟨r, h1, fun hr j u hj hu => ?_, h3⟩
          by_cases hji : j = i
          · subst hji
            rw [List.getElem?_eq_getElem (by rw [q3o]; exact hlt)] at hu
            cases hu
            rw [hv]
            exact hg rfl
          · exact h2 hr j u (by omega) hu
    · have e1 : decide (((i : Nat) : Int) < ((s.size : Nat) : Int)) = false := by simp; omega
      simp only [e1, cond_false]
      refine ⟨_, rfl, fun _ j v hj hv => ?_, fun b h => by cases h⟩
      have := (List.getElem?_eq_some_iff.1 hv).1
      rw [q3o] at this
      omega
theorem named4 (hK : 100 ≤ K) (s : ByteArray) : ∃ b, q26.f K s = some b ∧ (b = true → j37 s) := by
  unfold q26.f
  by_cases h1 : s.size < 1
  · have e : decide (((s.size : Nat) : Int) < (1 : Int)) = true := by simp; omega
    simp only [e, cond_true, q03, q0c]
    exact ⟨_, rfl, fun h => by cases h⟩
  · have e : decide (((s.size : Nat) : Int) < (1 : Int)) = false := by simp; omega
    by_cases h2 : s.size > 12
    · have e' : decide (((s.size : Nat) : Int) > (12 : Int)) = true := by simp; omega
      simp only [e, e', cond_true, cond_false, q03, q0c]
      exact ⟨_, rfl, fun h => by cases h⟩
    · have e' : decide (((s.size : Nat) : Int) > (12 : Int)) = false := by simp; omega
      have e2 : Nat.blt 0 s.size = true := Nat.ble_eq_true_of_le (by omega)
      have e3 : ((s[(0 : Nat)]?.getD (0 : UInt8)).toNat : Int) = (bytesOf s)[0]'(by rw [q3o]; omega) := z5j (by omega)
      simp only [e, e', e2, cond_true, cond_false, e3]
      generalize hv : (bytesOf s)[0]'(by rw [q3o]; omega) = v
      by_cases h97 : v < 97
      · simp only [decide_eq_true h97, cond_true, q03, q0c]
        exact ⟨_, rfl, fun h => by cases h⟩
      · by_cases h122 : v > 122
        · simp only [decide_eq_false h97, decide_eq_true h122, cond_true, cond_false, q03, q0c]
          exact ⟨_, rfl, fun h => by cases h⟩
        · simp only [decide_eq_false h97, decide_eq_false h122, cond_true, cond_false, q03, q0c]
          obtain ⟨r, q1, q2, q3⟩ := z9y (K := K) (s := s) (by omega) s.size K 0 (by omega) (by omega) (by omega)
          rw [show q26.l0.f K K s (0 : Int) = some r from q1]
          cases r with
          | inl u =>
            refine ⟨_, rfl, fun _ => ⟨by omega, by omega, fun w hw => ?_, fun w hw => ?_⟩⟩
            · rw [List.getElem?_eq_getElem (by rw [q3o]; omega)] at hw
              cases hw
              omega
            · obtain ⟨j, hj⟩ := List.mem_iff_getElem?.1 hw
              exact q2 rfl j w (by omega) hj
          | inr b => exact ⟨_, rfl, fun h => by have := q3 b rfl; subst this; cases h⟩
theorem j3w {s : ByteArray} (hs : s.size ≤ 12) (h0 : ∀ v, (bytesOf s)[0]? = some v → 97 ≤ v ∧ v ≤ 122) (hg : ∀ v ∈ bytesOf s, j41 v = true) : ∀ (l2 l1 : List Int) (k : Nat), bytesOf s = l1 ++ l2 → l2.length < k →
    q6p.l0.f K k (bytesOf s) (((bytesOf s).length : Nat) : Int) ((l1.length : Nat) : Int) = some (.inl ())
  | l2, l1, 0, h, hk => by omega
  | [], l1, k + 1, h, hk => by
    rw [q6p.l0.f]
    simp only [q2e h, cond_false]
  | x :: l2, l1, k + 1, h, hk => by
    rw [q6p.l0.f]
    have hx := hg x (by rw [h]; simp)
    have hlen : l1.length ≤ 12 := by have := q3o s; rw [h] at this; simp at this; omega
    simp only [q2b h, ge0, q2w h, cond_true, q0c, q0y (l1 := l1) (x := x) (by omega)]
    have ih := j3w hs h0 hg l2 (l1 ++ [x]) k (q09 h) (by simp at hk; omega)
    have key : (q1c (bif decide (x ≥ (97 : Int)) then bif decide (x ≥ (48 : Int)) then some (decide (x ≤ (122 : Int)), decide (x ≤ (57 : Int))) else some (decide (x ≤ (122 : Int)), false) else bif decide (x ≥ (48 : Int)) then some (false, decide (x ≤ (57 : Int))) else some (false, false)) fun t => q1c (bif !t.1 then bif !t.2 then some true else some (((l1.length : Nat) : Int) == (0 : Int)) else some false) fun t => bif t then (some (Sum.inr false) : Option (Unit ⊕ Bool)) else q6p.l0.f K k (bytesOf s) (((bytesOf s).length : Nat) : Int) (((l1 ++ [x]).length : Nat) : Int)) = q6p.l0.f K k (bytesOf s) (((bytesOf s).length : Nat) : Int) (((l1 ++ [x]).length : Nat) : Int) := by
      by_cases hn : l1.length = 0
      · have hl1 : l1 = [] := List.length_eq_zero_iff.1 hn
        subst hl1
        have := h0 x (by rw [h]; simp)
        have a1 : decide (x ≥ (97 : Int)) = true := by simp; omega
        have a2 : decide (x ≤ (122 : Int)) = true := by simp; omega
        have a3 : decide (x ≥ (48 : Int)) = true := by simp; omega
        simp only [a1, a2, a3, cond_true, q03, q0c, Bool.not_true, cond_false]
      · have a0 : (((l1.length : Nat) : Int) == (0 : Int)) = false := beq_eq_false_iff_ne.2 (by omega)
        simp only [j41, Bool.or_eq_true, Bool.and_eq_true, decide_eq_true_eq] at hx
        by_cases h97 : 97 ≤ x
        · have a1 : decide (x ≥ (97 : Int)) = true := by simp; omega
          have a2 : decide (x ≤ (122 : Int)) = true := by simp; omega
          have a3 : decide (x ≥ (48 : Int)) = true := by simp; omega
          simp only [a1, a2, a3, cond_true, q03, q0c, Bool.not_true, cond_false]
        · have a1 : decide (x ≥ (97 : Int)) = false := by simp; omega
          have a2 : decide (x ≤ (57 : Int)) = true := by simp; omega
          have a3 : decide (x ≥ (48 : Int)) = true := by simp; omega
          simp only [a0, a1, a2, a3, cond_true, q03, q0c, Bool.not_true, Bool.not_false, cond_false]
    exact key.trans ih
theorem j0s (hK : 100 ≤ K) {s : ByteArray} (h : j37 s) : q6p.f K s = some true := by
  obtain ⟨h1, h2, h3, h4⟩ := h
  unfold q6p.f
  have e : Nat.ble s.size 1000000 = true := Nat.ble_eq_true_of_le (by omega)
  have l0 : q6p.l0.f K K (bytesOf s) (((bytesOf s).length : Nat) : Int) (0 : Int) = some (.inl ()) := j3w h2 h3 h4 (bytesOf s) [] K rfl (by rw [q3o]; omega)
  have e2 : (!s.toList == (ByteArray.mk #[]).toList) = true := by
    have : s.toList ≠ (ByteArray.mk #[]).toList := fun hh => by
      rw [ByteArray.toList_eq, ByteArray.toList_eq] at hh
      have := congrArg List.length hh
      have h5 : s.data.toList.length = s.size := rfl
      have h6 : (ByteArray.mk #[]).data.toList.length = 0 := rfl
      rw [h5, h6] at this
      omega
    simpa using this
  have e3 : decide (((s.size : Nat) : Int) ≤ (12 : Int)) = true := by simp; omega
  simp only [e, cond_true, l0, q0c, Sum.elim_inl, e2, e3, q03]
end Go.Proofs.YtdjkdmjdcdljmaaGreatDoor.AF
namespace Go.Proofs.YtdjkdmjdcdljmaaGreatDoor.AF
open Go.Proofs.q0a
set_option maxRecDepth 100000
variable {K : Nat}
abbrev names (fs : List q0t) (is : List q0h) : List ByteArray := fs.map (·.1) ++ is.map (·.1)
abbrev arities (fs : List q0t) (is : List q0h) : List Int := fs.map (·.2.1) ++ is.map (·.2)
theorem q53 (a b : Int) : q2k.f K a b = some (decide (0 ≤ a) && decide (a < b)) := by
  unfold q2k.f
  by_cases h : 0 ≤ a
  · simp [h, q03]
  · simp [h, q03]
theorem j0d (a b : Int) : q1u.f K a b = some (decide (0 ≤ b) && decide (b < a)) := by
  unfold q1u.f
  by_cases h : 0 ≤ b
  · simp [h, q03]
  · simp [h, q03]
section
variable {fs : List q0t} {is : List q0h} (hl : fs.length + is.length ≤ 1000)
include hl
theorem q9s : q12.f K fs is = some (((fs.length + is.length : Nat)) : Int) := by
  unfold q12.f
  rw [q00 (by omega) (by omega)]
  simp
theorem name4_val {i : Nat} (h : i < (names fs is).length) : q49.f K fs is ((i : Nat) : Int) = some (names fs is)[i] := by
  unfold q49.f
  by_cases hi : i < fs.length
  · have e1 : decide (((i : Nat) : Int) < ((fs.length : Nat) : Int)) = true := by simp; omega
    simp only [ge_iff_le, ge0', cond_true, e1, q03, q0c, Bool.and_true, Int.toNat_natCast, List.getElem?_eq_getElem hi]
    simp [List.getElem_append, hi]
  · have e1 : decide (((i : Nat) : Int) < ((fs.length : Nat) : Int)) = false := by simp; omega
    have e2 : decide (((i : Nat) : Int) ≥ ((fs.length : Nat) : Int)) = true := by simp; omega
    have hi2 : i < fs.length + is.length := by simpa using h
    have e3 : decide (((i : Nat) : Int) < ((fs.length + is.length : Nat) : Int)) = true := by simp; omega
    have w : IntKind.i64.wrap (((i : Nat) : Int) - ((fs.length : Nat) : Int)) = ((i - fs.length : Nat) : Int) := by rw [q00 (by omega) (by omega)]; omega
    simp only [ge0', ge_iff_le, cond_true, cond_false, e1, q03, q0c, Bool.and_true, q9s hl, e3, w, Int.toNat_natCast, List.getElem?_eq_getElem (show i - fs.length < is.length by omega)]
    have e2' : decide (((fs.length : Nat) : Int) ≤ ((i : Nat) : Int)) = true := by simp; omega
    have e4 : (names fs is)[i] = is[i - fs.length].1 := by simp [List.getElem_append, hi]
    simp only [e2', cond_true, q0c, e3, ge0', e4, w, Int.toNat_natCast, List.getElem?_eq_getElem (show i - fs.length < is.length by omega)]
theorem name_val {i : Nat} (h : i < (names fs is).length) : z49.f K fs is ((i : Nat) : Int) = some (names fs is)[i] := by
  unfold z49.f
  by_cases hi : i < fs.length
  · have e1 : decide (((i : Nat) : Int) < ((fs.length : Nat) : Int)) = true := by simp; omega
    simp only [q53, q0c, ge0', e1, Bool.and_true, cond_true, Int.toNat_natCast, List.getElem?_eq_getElem hi]
    simp [List.getElem_append, hi]
  · have e1 : decide (((i : Nat) : Int) < ((fs.length : Nat) : Int)) = false := by simp; omega
    have hi2 : i < fs.length + is.length := by simpa using h
    have w : IntKind.i64.wrap (((i : Nat) : Int) - ((fs.length : Nat) : Int)) = ((i - fs.length : Nat) : Int) := by rw [q00 (by omega) (by omega)]; omega
    have e3 : decide (((i - fs.length : Nat) : Int) < ((is.length : Nat) : Int)) = true := by simp; omega
    simp only [q53, q0c, ge0', e1, Bool.and_true, Bool.and_false, cond_true, cond_false, w, e3, Int.toNat_natCast, List.getElem?_eq_getElem (show i - fs.length < is.length by omega)]
    simp [List.getElem_append, hi]
def fnd : List ByteArray → Nat → ByteArray → Option Nat
  | [], _, _ => none
  | n :: r, i, s => if n.toList == s.toList then some i else fnd r (i + 1) s
def fndI (l : List ByteArray) (s : ByteArray) : Int := match fnd l 0 s with
  | some i => i
  | none => -1
omit hl in
def outF : Option Nat → Unit ⊕ Int
  | some i => .inr i
  | none => .inl ()
theorem j3y {s : ByteArray} : ∀ (l2 l1 : List ByteArray) (k : Nat), names fs is = l1 ++ l2 → l2.length < k → q24.l0.f K k s ((l1.length : Nat) : Int) fs is = some (outF (fnd l2 l1.length s))
  | l2, l1, 0, h, hk => by omega
  | [], l1, k + 1, h, hk => by
    rw [q24.l0.f]
    have hn : l1.length = fs.length + is.length := by have := congrArg List.length h; simp at this; omega
    have e : decide (((l1.length : Nat) : Int) < ((fs.length + is.length : Nat) : Int)) = false := by simp; omega
    simp only [q9s hl, q0c, e, cond_false, fnd, outF]
  | x :: l2, l1, k + 1, h, hk => by
    rw [q24.l0.f]
    have hn : l1.length + 1 + l2.length = fs.length + is.length := by have := congrArg List.length h; simp at this; omega
    have e : decide (((l1.length : Nat) : Int) < ((fs.length + is.length : Nat) : Int)) = true := by simp; omega
    have hx : (names fs is)[l1.length]'(by simp; omega) = x := by simp only [h]; simp
    simp only [q9s hl, q0c, e, cond_true, name4_val hl (i := l1.length) (by simp; omega), hx, fnd]
    cases hc : x.toList == s.toList with
    | true => simp [outF]
    | false =>
      simp only [cond_false]
      rw [q0y (x := x) (by omega), j3y l2 (l1 ++ [x]) k (q09 h) (by simp at hk; omega)]
      simp
theorem z9t (hK : 2000 ≤ K) (s : ByteArray) : q24.f K fs is s = some (fndI (names fs is) s) := by
  unfold q24.f
  have : q24.l0.f K K s (0 : Int) fs is = some (outF (fnd (names fs is) 0 s)) := j3y hl (names fs is) [] K rfl (by simp; omega)
  rw [this]
  unfold fndI
  cases fnd (names fs is) 0 s <;> rfl
theorem find_l0 {s : ByteArray} : ∀ (l2 l1 : List ByteArray) (k : Nat), names fs is = l1 ++ l2 → l2.length < k → q8z.l0.f K k s ((fs.length + is.length : Nat) : Int) ((l1.length : Nat) : Int) fs is = some (outF (fnd l2 l1.length s))
  | l2, l1, 0, h, hk => by omega
  | [], l1, k + 1, h, hk => by
    rw [q8z.l0.f]
    have hn : l1.length = fs.length + is.length := by have := congrArg List.length h; simp at this; omega
    have e : decide (((l1.length : Nat) : Int) < ((fs.length + is.length : Nat) : Int)) = false := by simp; omega
    simp only [e, cond_false, fnd, outF]
  | x :: l2, l1, k + 1, h, hk => by
    rw [q8z.l0.f]
    have hn : l1.length + 1 + l2.length = fs.length + is.length := by have := congrArg List.length h; simp at this; omega
    have e : decide (((l1.length : Nat) : Int) < ((fs.length + is.length : Nat) : Int)) = true := by simp; omega
    have hx : (names fs is)[l1.length]'(by simp; omega) = x := by simp only [h]; simp
    simp only [q0c, e, cond_true, name_val hl (i := l1.length) (by simp; omega), hx, fnd]
    cases hc : x.toList == s.toList with
    | true => simp [outF]
    | false =>
      simp only [cond_false]
      rw [q0y (x := x) (by omega), find_l0 l2 (l1 ++ [x]) k (q09 h) (by simp at hk; omega)]
      simp
theorem j2s (hK : 2000 ≤ K) (s : ByteArray) : q8z.f K fs is s = some (fndI (names fs is) s) := by
  unfold q8z.f
  have w : IntKind.i64.wrap (((fs.length : Nat) : Int) + ((is.length : Nat) : Int)) = ((fs.length + is.length : Nat) : Int) := by rw [q00 (by omega) (by omega)]; simp
  have : q8z.l0.f K K s ((fs.length + is.length : Nat) : Int) (0 : Int) fs is = some (outF (fnd (names fs is) 0 s)) := find_l0 hl (names fs is) [] K rfl (by simp; omega)
  rw [w, this]
  unfold fndI
  cases fnd (names fs is) 0 s <;> rfl
def arI (l : List Int) (i : Int) : Int := if 0 ≤ i then (match l[i.toNat]? with | some v => v | none => -1) else -1
theorem j42 (i : Int) : q42.f K fs is i = some (arI (arities fs is) i) := by
  unfold q42.f arI
  by_cases h0 : 0 ≤ i
  · rw [if_pos h0]
    obtain ⟨n, rfl⟩ : ∃ n : Nat, i = n := ⟨i.toNat, by omega⟩
    by_cases hi : n < fs.length
    · have e1 : decide (((n : Nat) : Int) < ((fs.length : Nat) : Int)) = true := by simp; omega
      simp only [ge_iff_le, ge0', cond_true, e1, q03, q0c, Bool.and_true, Int.toNat_natCast, List.getElem?_eq_getElem hi]
      rw [List.getElem?_append_left (by simpa using hi)]
      simp [hi]
    · have e1 : decide (((n : Nat) : Int) < ((fs.length : Nat) : Int)) = false := by simp; omega
      have e2 : decide (((n : Nat) : Int) ≥ ((fs.length : Nat) : Int)) = true := by simp; omega
      simp only [ge0', ge_iff_le, cond_true, cond_false, e1, q03, q0c, Bool.and_true, q9s hl, Int.toNat_natCast]
      have e2' : decide (((fs.length : Nat) : Int) ≤ ((n : Nat) : Int)) = true := by simp; omega
      rw [List.getElem?_append_right (by simpa using hi)]
      simp only [e2', cond_true, List.length_map]
      by_cases hi2 : n < fs.length + is.length
      · have e3 : decide (((n : Nat) : Int) < ((fs.length + is.length : Nat) : Int)) = true := by simp; omega
        have w : IntKind.i64.wrap (((n : Nat) : Int) - ((fs.length : Nat) : Int)) = ((n - fs.length : Nat) : Int) := by rw [q00 (by omega) (by omega)]; omega
        simp only [e3, cond_true, w, ge0', q0c, Int.toNat_natCast, List.getElem?_eq_getElem (show n - fs.length < is.length by omega)]
        simp [List.getElem?_eq_getElem (show n - fs.length < is.length by omega)]
      · have e3 : decide (((n : Nat) : Int) < ((fs.length + is.length : Nat) : Int)) = false := by simp; omega
        simp only [e3, cond_false, q0c]
        have e9 : (is.map (·.2))[n - fs.length]? = none := List.getElem?_eq_none (by rw [List.length_map]; omega)
        simp only [e9]
  · rw [if_neg h0]
    have e0 : decide (i ≥ (0 : Int)) = false := by simp; omega
    have e2 : decide (i ≥ ((fs.length : Nat) : Int)) = false := by simp; omega
    simp only [e0, e2, cond_false, q03, q0c]
theorem arity_val {i : Int} (hb : -1000000 ≤ i ∧ i ≤ 1000000) : z07.f K fs is i = some (arI (arities fs is) i) := by
  unfold z07.f arI
  by_cases h0 : 0 ≤ i
  · rw [if_pos h0]
    obtain ⟨n, rfl⟩ : ∃ n : Nat, i = n := ⟨i.toNat, by omega⟩
    by_cases hi : n < fs.length
    · have e1 : decide (((n : Nat) : Int) < ((fs.length : Nat) : Int)) = true := by simp; omega
      simp only [q53, ge0', cond_true, e1, q0c, Bool.and_true, Int.toNat_natCast, List.getElem?_eq_getElem hi]
      rw [List.getElem?_append_left (by simpa using hi)]
      simp [hi]
    · have e1 : decide (((n : Nat) : Int) < ((fs.length : Nat) : Int)) = false := by simp; omega
      have w : IntKind.i64.wrap (((n : Nat) : Int) - ((fs.length : Nat) : Int)) = ((n - fs.length : Nat) : Int) := by rw [q00 (by omega) (by omega)]; omega
      simp only [q53, ge0', ge_iff_le, cond_true, cond_false, e1, q03, q0c, Bool.and_true, Bool.and_false, w, Int.toNat_natCast]
      rw [List.getElem?_append_right (by simpa using hi)]
      simp only [List.length_map]
      by_cases hi2 : n < fs.length + is.length
      · have e3 : decide (((n - fs.length : Nat) : Int) < ((is.length : Nat) : Int)) = true := by simp; omega
        simp only [e3, Bool.and_true, cond_true, ge0', q0c, List.getElem?_eq_getElem (show n - fs.length < is.length by omega)]
        simp [List.getElem?_eq_getElem (show n - fs.length < is.length by omega)]
      · have e3 : decide (((n - fs.length : Nat) : Int) < ((is.length : Nat) : Int)) = false := by simp; omega
        simp only [e3, Bool.and_false, cond_false, q0c]
        have e9 : (is.map (·.2))[n - fs.length]? = none := List.getElem?_eq_none (by rw [List.length_map]; omega)
        simp only [e9]
  · rw [if_neg h0]
    have e0 : decide (0 ≤ i) = false := by simp; omega
    have e0' : decide (i ≥ (0 : Int)) = false := by simp; omega
    simp only [q53, e0, e0', Bool.false_and, cond_false, q03, q0c]
end
end Go.Proofs.YtdjkdmjdcdljmaaGreatDoor.AF
namespace Go.Proofs.YtdjkdmjdcdljmaaGreatDoor.AF
open Go.Proofs.q0a
set_option maxRecDepth 100000
set_option maxHeartbeats 4000000
variable {K : Nat}
def q76 (op : Int) : Bool := (decide (1 ≤ op) && decide (op ≤ 13)) || (op == 15 || op == 17)
def q88 (op : Int) : Bool := (decide (2 ≤ op) && decide (op ≤ 12)) || (op == 14 || op == 16)
def z0e (op : Int) : Bool := decide (4 ≤ op) && decide (op ≤ 12)
def reg (regs v : Int) : Prop := 0 ≤ v ∧ v < regs
structure z1i (nc : Nat) (ar : List Int) (regs : Int) (x : q32) : Prop where
  op : 1 ≤ x.1 ∧ x.1 ≤ 17
  d : if q76 x.1 then reg regs x.2.1 else x.2.1 = 0
  a : if q88 x.1 then reg regs x.2.2.1 else x.2.2.1 = 0
  b : if z0e x.1 then reg regs x.2.2.2.1 else if x.1 = 13 ∨ x.1 = 14 then reg nc x.2.2.2.1 else if x.1 = 17 then reg ar.length x.2.2.2.1 ∧ arI ar x.2.2.2.1 = x.2.2.2.2.2.length else x.2.2.2.1 = 0
  n : x.1 ≠ 1 → x.2.2.2.2.1 = 0
  args : if x.1 = 17 then ∀ v ∈ x.2.2.2.2.2, reg regs v else x.2.2.2.2.2 = []
theorem z6y (op : Int) : q3h.f K op = some (q76 op) := by
  unfold q3h.f q76
  generalize (op == 15) = p
  generalize (op == 17) = q
  by_cases h1 : 1 ≤ op <;> by_cases h2 : op ≤ 13 <;> cases p <;> cases q <;> simp [h1, h2, q03]
theorem j4e (op : Int) : q3g.f K op = some (q88 op) := by
  unfold q3g.f q88
  generalize (op == 14) = p
  generalize (op == 16) = q
  by_cases h1 : 2 ≤ op <;> by_cases h2 : op ≤ 12 <;> cases p <;> cases q <;> simp [h1, h2, q03]
theorem j48 (op : Int) : q15.f K op = some (z0e op) := by
  unfold q15.f z0e
  by_cases h1 : 4 ≤ op <;> by_cases h2 : op ≤ 12 <;> simp [h1, h2, q03]
theorem j2j {regs : Int} : ∀ (l2 l1 : List Int) (k : Nat) (l : List Int), l = l1 ++ l2 → l.length ≤ 1000 → l2.length < k → ∃ r, q3e.l0.f K k regs ((l1.length : Nat) : Int) l = some r ∧ (r = .inl () → ∀ v ∈ l2, reg regs v) ∧ ∀ n, r = .inr n → n = 9
  | l2, l1, 0, l, h, hl, hk => by omega
  | [], l1, k + 1, l, h, hl, hk => by
    rw [q3e.l0.f]
    simp only [q2e h, cond_false]
    exact ⟨_, rfl, fun _ v hv => by simp at hv, fun n h => by cases h⟩
  | x :: l2, l1, k + 1, l, h, hl, hk => by
    rw [q3e.l0.f]
    have hl1 : l1.length ≤ 1000 := by rw [h] at hl; simp at hl; omega
    simp only [q2b h, ge0, q2w h, cond_true, q0c, j0d, q0y (l1 := l1) (x := x) (by omega)]
    cases hb : (decide (0 ≤ x) && decide (x < regs)) with
    | false =>
      simp only [Bool.not_false, cond_true]
      exact ⟨_, rfl, (fun h => by cases h), (fun n h => by cases h; rfl)⟩
    | true =>
      simp only [Bool.not_true, cond_false]
      obtain ⟨r, h1, h2, h3⟩ := j2j l2 (l1 ++ [x]) k l (q09 h) hl (by simp at hk; omega)
      refine ⟨r, h1, fun hr v hv => ?_, h3⟩
      rcases List.mem_cons.1 hv with rfl | hv
      · simpa [reg] using hb
      · exact h2 hr v hv
theorem z1b {op : Int} (h1 : 1 ≤ op) (h2 : op ≤ 17) : op = 1 ∨ op = 2 ∨ op = 3 ∨ op = 4 ∨ op = 5 ∨ op = 6 ∨ op = 7 ∨ op = 8 ∨ op = 9 ∨ op = 10 ∨ op = 11 ∨ op = 12 ∨ op = 13 ∨ op = 14 ∨ op = 15 ∨ op = 16 ∨ op = 17 := by omega
theorem q8e {α : Type} {c : Bool} {a b : α} : (bif c then some a else some b) = some (bif c then a else b) := by cases c <;> rfl
theorem c_or {a b : Bool} : (bif a then true else b) = (a || b) := by cases a <;> rfl
theorem c_and {a b : Bool} : (bif a then b else false) = (a && b) := by cases a <;> rfl
theorem c_imp {a b c : Bool} : (bif !a then b else c) = bif a then c else b := by cases a <;> rfl
theorem z2z {c : Bool} {v : Int} {X : Option Int} {P : Prop} (hv : v ≠ 0) (h : c = false → ∃ r, X = some r ∧ (r = 0 → P)) : ∃ r, (bif c then some v else X) = some r ∧ (r = 0 → P) := by
  cases c with
  | true => exact ⟨v, rfl, fun h => absurd h hv⟩
  | false => exact h rfl
theorem insn4_ok (hK : 2000 ≤ K) {cells : List Int} {fs : List q0t} {is : List q0h} (hl : fs.length + is.length ≤ 1000) (regs op d a b n : Int) (args : List Int) (ha : args.length ≤ 1000) :
    ∃ r, q3e.f K cells fs is regs op d a b n args = some r ∧ (r = 0 → z1i cells.length (arities fs is) regs (op, d, a, b, n, args)) := by
  unfold q3e.f
  simp only [q03, q0c, z6y, j4e, j48, j0d, q9s hl, j42 hl, q8e]
  obtain ⟨q, hq, hq1, hq2⟩ := j2j (K := K) (regs := regs) args [] K args rfl ha (by omega)
  have hq' : q3e.l0.f K K regs (0 : Int) args = some q := hq
  rw [hq']
  simp only [q0c, c_or, c_and, c_imp]
  refine z2z (by decide) fun h1 => z2z (by decide) fun h2 => z2z (by decide) fun h3 => z2z (by decide) fun h4 => ?_
  simp only [Bool.or_eq_false_iff, decide_eq_false_iff_not] at h1
  have len : (arities fs is).length = fs.length + is.length := by simp
  by_cases h17 : op = 17
  · subst h17
    simp only [show ((17 : Int) != 17) = false from rfl, cond_false]
    refine z2z (by decide) fun h5 => z2z (by decide) fun h6 => ?_
    cases q with
    | inr m => exact ⟨m, rfl, fun h => by have := hq2 m rfl; omega⟩
    | inl u =>
      refine ⟨0, rfl, fun _ => ⟨⟨by omega, by omega⟩, ?_, ?_, ?_, ?_, ?_⟩⟩
      · simp [q76, q88, z0e, reg] at h3 ⊢; omega
      · simp [q76, q88, z0e] at h2 ⊢; omega
      · simp [q76, q88, z0e, reg] at h5 h6 ⊢
        exact ⟨by omega, h6.symm⟩
      · simp [q76, q88, z0e] at h2 ⊢; omega
      · simpa using hq1 rfl
  · have e17 : (op != 17) = true := by simp [h17]
    simp only [e17, cond_true]
    refine ⟨0, rfl, fun _ => ?_⟩
    rcases z1b (by omega : 1 ≤ op) (by omega : op ≤ 17) with rfl | rfl | rfl | rfl | rfl | rfl | rfl | rfl | rfl | rfl | rfl | rfl | rfl | rfl | rfl | rfl | rfl <;> first | exact absurd rfl h17 | skip
    all_goals (simp [q76, q88, z0e] at h2 h3 h4; refine ⟨⟨by dsimp only; decide, by dsimp only; decide⟩, ?_, ?_, ?_, ?_, ?_⟩ <;> simp [q76, q88, z0e, reg] <;> first | omega | (simp_all; done) | (simp_all; omega))
end Go.Proofs.YtdjkdmjdcdljmaaGreatDoor.AF
namespace Go.Proofs.YtdjkdmjdcdljmaaGreatDoor.AF
open Go.Proofs.q0a
set_option maxRecDepth 100000
set_option maxHeartbeats 4000000
variable {K : Nat}
theorem j0t {regs : Int} {l : List Int} (hl : l.length ≤ 1000) (ha : ∀ v ∈ l, reg regs v) : ∀ (l2 l1 : List Int) (k : Nat), l = l1 ++ l2 → l2.length < k → q2n.l0.f K k l ((l.length : Nat) : Int) ((l1.length : Nat) : Int) regs = some (.inl ())
  | l2, l1, 0, h, hk => by omega
  | [], l1, k + 1, h, hk => by
    rw [q2n.l0.f]
    simp only [q2e h, cond_false]
  | x :: l2, l1, k + 1, h, hk => by
    rw [q2n.l0.f]
    have hl1 : l1.length ≤ 1000 := by rw [h] at hl; simp at hl; omega
    have hx := ha x (by rw [h]; simp)
    have e : (decide (0 ≤ x) && decide (x < regs)) = true := by simpa [reg] using hx
    simp only [q2b h, ge0, q2w h, cond_true, q0c, q67.f, q53, q0y (l1 := l1) (x := x) (by omega), e, Bool.not_true, cond_false]
    exact j0t hl ha l2 (l1 ++ [x]) k (q09 h) (by simp at hk; omega)
theorem j0g (hK : 2000 ≤ K) {regs : Int} {l : List Int} (hl : l.length ≤ 1000) (ha : ∀ v ∈ l, reg regs v) : q3m.f K l regs = some false := by
  unfold q3m.f q2n.f
  have : q2n.l0.f K K l ((l.length : Nat) : Int) (0 : Int) regs = some (.inl ()) := j0t hl ha l [] K rfl (by omega)
  simp [this]
theorem insn_val (hK : 2000 ≤ K) {cells : List Int} {fs : List q0t} {is : List q0h} (hl : fs.length + is.length ≤ 1000) {regs op d a b n : Int} {args : List Int} (ha : args.length ≤ 1000)
    (h : z1i cells.length (arities fs is) regs (op, d, a, b, n, args)) : q60.f K cells fs is regs op d a b n args = some 0 := by
  obtain ⟨⟨h1, h2⟩, hd, hA, hb, hn, hg⟩ := h
  dsimp only at *
  have len : (arities fs is).length = fs.length + is.length := by simp
  unfold q60.f q8q.f
  simp only [q03, q0c, q8e, c_or, c_and, c_imp, q53]
  by_cases h17 : op = 17
  · subst h17
    simp [q76, q88, z0e, reg] at hd hA hb hn hg
    have e2 : arI (arities fs is) b = args.length := hb.2
    have e3 := j0g (K := K) hK (regs := regs) (l := args) ha hg
    have e5 : (((args.length : Nat) : Int) == -1) = false := beq_eq_false_iff_ne.2 (by omega)
    simp [q4r.f, hd, hA, hn, arity_val (K := K) hl (i := b) (by omega), e2, e3, e5, hb]
  · simp only [h17, if_false] at hg
    have hop := z1b h1 h2
    rcases hop with rfl | rfl | rfl | rfl | rfl | rfl | rfl | rfl | rfl | rfl | rfl | rfl | rfl | rfl | rfl | rfl | rfl <;> first | exact absurd rfl h17 | skip
    all_goals (simp [q76, q88, z0e, reg] at hd hA hb hn <;> simp [q4r.f, hd, hA, hb, hn, hg])
structure z3n (regs : Int) (nb : Nat) (e : LEnd) : Prop where
  op : 1 ≤ e.1 ∧ e.1 ≤ 3
  a : if e.1 = 1 then e.2.1 = 0 else reg regs e.2.1
  to : if e.1 = 3 then e.2.2.1 = 0 else reg nb e.2.2.1
  els : if e.1 = 2 then reg nb e.2.2.2 else e.2.2.2 = 0
theorem z75 {c : Bool} {v X : Int} (hv : v ≠ 0) (h : (bif c then v else X) = 0) : c = false ∧ X = 0 := by
  cases c with
  | true => exact absurd h hv
  | false => exact ⟨rfl, h⟩
theorem end4_ok {regs : Int} {bs : List q1k} (o a t e : Int) : ∃ r, q5r.f K regs bs o a t e = some r ∧ (r = 0 → z3n regs bs.length (o, a, t, e)) := by
  unfold q5r.f
  simp only [q03, q0c, q8e, c_or, c_and, c_imp]
  refine ⟨_, rfl, fun h => ?_⟩
  obtain ⟨h1, h⟩ := z75 (by decide) h
  obtain ⟨h2, h⟩ := z75 (by decide) h
  obtain ⟨h3, h⟩ := z75 (by decide) h
  obtain ⟨h4, h⟩ := z75 (by decide) h
  simp only [Bool.or_eq_false_iff, decide_eq_false_iff_not] at h1
  have : o = 1 ∨ o = 2 ∨ o = 3 := by omega
  rcases this with rfl | rfl | rfl
  all_goals (simp at h2 h3 h4; refine ⟨⟨by dsimp only; decide, by dsimp only; decide⟩, ?_, ?_, ?_⟩ <;> simp [reg] <;> first | omega | (simp_all; done) | (simp_all; omega))
theorem end_val {regs : Int} {bs : List q1k} {o a t e : Int} (h : z3n regs bs.length (o, a, t, e)) : q82.f K regs bs o a t e = some 0 := by
  obtain ⟨⟨h1, h2⟩, hA, ht, he⟩ := h
  dsimp only at *
  unfold q82.f
  simp only [q03, q0c, q8e, c_or, c_and, c_imp, q53]
  have : o = 1 ∨ o = 2 ∨ o = 3 := by omega
  rcases this with rfl | rfl | rfl
  all_goals (simp [reg] at hA ht he; simp [hA, ht, he])
structure z8f (nc : Nat) (ar : List Int) (regs : Int) (nb : Nat) (b : q1k) : Prop where
  len : b.1.length ≤ 12
  insns : ∀ x ∈ b.1, z1i nc ar regs x
  fin : z3n regs nb b.2
structure okFunc (nc : Nat) (ar : List Int) (f : q0t) : Prop where
  name : j37 f.1
  arity : 0 ≤ f.2.1 ∧ f.2.1 ≤ 4
  regs : 1 ≤ f.2.2.1 ∧ f.2.2.1 ≤ 8 ∧ f.2.1 ≤ f.2.2.1
  blocks : 1 ≤ f.2.2.2.length ∧ f.2.2.2.length ≤ 12
  each : ∀ b ∈ f.2.2.2, z8f nc ar f.2.2.1 f.2.2.2.length b
section
variable {cells : List Int} {fs : List q0t} {is : List q0h} (hl : fs.length + is.length ≤ 1000)
include hl
theorem j19 (hK : 2000 ≤ K) {p q regs : Int} {l : List q32} (hll : l.length ≤ 1000) (hla : ∀ x ∈ l, x.2.2.2.2.2.length ≤ 1000) : ∀ (l2 l1 : List q32) (k : Nat), l = l1 ++ l2 → l2.length < k →
    ∃ r, q1b.l2.f K k p q l ((l1.length : Nat) : Int) cells fs is regs = some r ∧ (r = .inl () → ∀ x ∈ l2, z1i cells.length (arities fs is) regs x) ∧ ∀ v, r = .inr v → v.1 ≠ 0
  | l2, l1, 0, h, hk => by omega
  | [], l1, k + 1, h, hk => by
    rw [q1b.l2.f]
    simp only [q2e h, cond_false]
    exact ⟨_, rfl, fun _ v hv => by simp at hv, fun n h => by cases h⟩
  | x :: l2, l1, k + 1, h, hk => by
    rw [q1b.l2.f]
    have hl1 : l1.length ≤ 1000 := by rw [h] at hll; simp at hll; omega
    obtain ⟨v, e1, e2⟩ := insn4_ok (K := K) hK (cells := cells) hl regs x.1 x.2.1 x.2.2.1 x.2.2.2.1 x.2.2.2.2.1 x.2.2.2.2.2 (hla x (by rw [h]; simp))
    simp only [q2b h, ge0, q2w h, cond_true, q0c, q0y (l1 := l1) (x := x) (by omega), e1]
    by_cases hv : v = 0
    · subst hv
      simp only [show ((0 : Int) != 0) = false from rfl, cond_false]
      obtain ⟨r, g1, g2, g3⟩ := j19 hK hll hla l2 (l1 ++ [x]) k (q09 h) (by simp at hk; omega)
      refine ⟨r, g1, fun hr y hy => ?_, g3⟩
      rcases List.mem_cons.1 hy with rfl | hy
      · exact e2 rfl
      · exact g2 hr y hy
    · have : (v != 0) = true := by simp [hv]
      simp only [this, cond_true]
      exact ⟨_, rfl, (fun h => by cases h), (fun w h => by cases h; exact hv)⟩
theorem j29 (hK : 2000 ≤ K) {p regs : Int} {l : List q1k} (hll : l.length ≤ 1000) (hlb : ∀ b ∈ l, b.1.length ≤ 1000 ∧ ∀ x ∈ b.1, x.2.2.2.2.2.length ≤ 1000) : ∀ (l2 l1 : List q1k) (k : Nat), l = l1 ++ l2 → l2.length < k →
    ∃ r, q1b.l1.f K k p ((l1.length : Nat) : Int) cells fs is regs l = some r ∧ (r = .inl () → ∀ b ∈ l2, z8f cells.length (arities fs is) regs l.length b) ∧ ∀ v, r = .inr v → v.1 ≠ 0
  | l2, l1, 0, h, hk => by omega
  | [], l1, k + 1, h, hk => by
    rw [q1b.l1.f]
    simp only [q2e h, cond_false]
    exact ⟨_, rfl, fun _ v hv => by simp at hv, fun n h => by cases h⟩
  | x :: l2, l1, k + 1, h, hk => by
    rw [q1b.l1.f]
    have hl1 : l1.length ≤ 1000 := by rw [h] at hll; simp at hll; omega
    obtain ⟨q1, q2⟩ := hlb x (by rw [h]; simp)
    simp only [q2b h, ge0, q2w h, cond_true, q0c, q0y (l1 := l1) (x := x) (by omega)]
    by_cases h12 : x.1.length > 12
    · have : decide (((x.1.length : Nat) : Int) > (12 : Int)) = true := by simp; omega
      simp only [this, cond_true]
      exact ⟨_, rfl, (fun h => by cases h), (fun w h => by cases h; dsimp only; decide)⟩
    · have e0 : decide (((x.1.length : Nat) : Int) > (12 : Int)) = false := by simp; omega
      obtain ⟨r, g1, g2, g3⟩ := j19 (K := K) (cells := cells) (p := p) (q := ((l1.length : Nat) : Int)) (regs := regs) hl hK q1 q2 x.1 [] K rfl (by omega)
      have g1' : q1b.l2.f K K p ((l1.length : Nat) : Int) x.1 (0 : Int) cells fs is regs = some r := g1
      simp only [e0, cond_false, g1', q0c]
      cases r with
      | inr v => exact ⟨_, rfl, (fun h => by cases h), (fun w h => by cases h; exact g3 v rfl)⟩
      | inl u =>
        obtain ⟨v, e1, e2⟩ := end4_ok (K := K) (regs := regs) (bs := l) x.2.1 x.2.2.1 x.2.2.2.1 x.2.2.2.2
        simp only [Sum.elim_inl, e1, q0c]
        by_cases hv : v = 0
        · subst hv
          simp only [show ((0 : Int) != 0) = false from rfl, cond_false]
          obtain ⟨r, f1, f2, f3⟩ := j29 hK hll hlb l2 (l1 ++ [x]) k (q09 h) (by simp at hk; omega)
          refine ⟨r, f1, fun hr y hy => ?_, f3⟩
          rcases List.mem_cons.1 hy with rfl | hy
          · exact ⟨by omega, g2 rfl, e2 rfl⟩
          · exact f2 hr y hy
        · have : (v != 0) = true := by simp [hv]
          simp only [this, cond_true]
          exact ⟨_, rfl, (fun h => by cases h), (fun w h => by cases h; exact hv)⟩
theorem j3l (hK : 2000 ≤ K) (hf : fits fs) : ∀ (l2 l1 : List q0t) (k : Nat), fs = l1 ++ l2 → l2.length < k →
    ∃ r, q1b.l0.f K k ((l1.length : Nat) : Int) cells fs is = some r ∧ (r = .inl () → ∀ (i : Nat) f, l2[i]? = some f → okFunc cells.length (arities fs is) f ∧ ((l1.length + i : Nat) : Int) ≤ fndI (names fs is) f.1) ∧ ∀ v, r = .inr v → v.1 ≠ 0
  | l2, l1, 0, h, hk => by omega
  | [], l1, k + 1, h, hk => by
    rw [q1b.l0.f]
    simp only [q2e h, cond_false]
    exact ⟨_, rfl, fun _ i v hv => by simp at hv, fun n h => by cases h⟩
  | x :: l2, l1, k + 1, h, hk => by
    rw [q1b.l0.f]
    have hl1 : l1.length ≤ 1000 := by have := hl; rw [h] at this; simp at this; omega
    obtain ⟨q1, q2⟩ := hf.2 x (by rw [h]; simp)
    obtain ⟨nb, n1, n2⟩ := named4 (K := K) (by omega) x.1
    simp only [q2b h, ge0, q2w h, cond_true, q0c, q0y (l1 := l1) (x := x) (by omega), n1, z9t hl hK, q03, q8e, c_or]
    have stop : ∀ {c : Bool} {v : Int × List Int} {X : Option (Unit ⊕ (Int × List Int))} {P : Prop}, v.1 ≠ 0 → (c = false → ∃ r, X = some r ∧ (r = .inl () → P) ∧ ∀ v, r = .inr v → v.1 ≠ 0) → ∃ r, (bif c then some (Sum.inr v) else X) = some r ∧ (r = .inl () → P) ∧ ∀ v, r = .inr v → v.1 ≠ 0 := by
      intro c v X P hv h
      cases c with
      | true => exact ⟨_, rfl, (fun h => by cases h), (fun w h => by cases h; exact hv)⟩
      | false => exact h rfl
    refine stop (by dsimp only; decide) fun h1 => stop (by dsimp only; decide) fun h2 => stop (by dsimp only; decide) fun h3 => stop (by dsimp only; decide) fun h4 => stop (by dsimp only; decide) fun h5 => ?_
    obtain ⟨r, g1, g2, g3⟩ := j29 (K := K) (cells := cells) (p := ((l1.length : Nat) : Int)) (regs := x.2.2.1) hl hK q1 q2 x.2.2.2 [] K rfl (by omega)
    have g1' : q1b.l1.f K K ((l1.length : Nat) : Int) (0 : Int) cells fs is x.2.2.1 x.2.2.2 = some r := g1
    simp only [g1', q0c]
    cases r with
    | inr v => exact ⟨_, rfl, (fun h => by cases h), (fun w h => by cases h; exact g3 v rfl)⟩
    | inl u =>
      simp only [Sum.elim_inl]
      obtain ⟨r, f1, f2, f3⟩ := j3l hK hf l2 (l1 ++ [x]) k (q09 h) (by simp at hk; omega)
      refine ⟨r, f1, fun hr i y hy => ?_, f3⟩
      simp at h1 h2 h3 h4 h5
      cases i with
      | zero =>
        simp at hy
        subst hy
        exact ⟨⟨n2 h1, by omega, by omega, by omega, g2 rfl⟩, by simpa using h2⟩
      | succ i =>
        have := f2 hr i y (by simpa using hy)
        refine ⟨this.1, ?_⟩
        have h9 := this.2
        simp at h9 ⊢
        omega
end
end Go.Proofs.YtdjkdmjdcdljmaaGreatDoor.AF
namespace Go.Proofs.YtdjkdmjdcdljmaaGreatDoor.AF
open Go.Proofs.q0a
set_option maxRecDepth 100000
set_option maxHeartbeats 4000000
variable {K : Nat}
def afterB (is : List q0h) (i : Nat) (m : q0h) : Prop := ∀ j p, i = j + 1 → is[j]? = some p → (Op.bytesLess m.1.toList p.1.toList || m.1.toList == p.1.toList) = false
structure j28 (fs : List q0t) (is : List q0h) (i : Nat) (m : q0h) : Prop where
  name : j37 m.1
  after : afterB is i m
  new : ((fs.length : Nat) : Int) ≤ fndI (names fs is) m.1
  arity : 0 ≤ m.2 ∧ m.2 ≤ 4
structure WF (cells : List Int) (fs : List q0t) (is : List q0h) : Prop where
  ncells : cells.length ≤ 16
  count : fs.length + is.length ≤ 24
  funcs : ∀ (i : Nat) f, fs[i]? = some f → okFunc cells.length (arities fs is) f ∧ ((i : Nat) : Int) ≤ fndI (names fs is) f.1
  imports : ∀ (i : Nat) m, is[i]? = some m → j28 fs is i m
theorem stopV {c : Bool} {v : Int × List Int} {X : Option (Unit ⊕ (Int × List Int))} {P : Prop} (hv : v.1 ≠ 0) (h : c = false → ∃ r, X = some r ∧ (r = .inl () → P) ∧ ∀ v, r = .inr v → v.1 ≠ 0) : ∃ r, (bif c then some (Sum.inr v) else X) = some r ∧ (r = .inl () → P) ∧ ∀ v, r = .inr v → v.1 ≠ 0 := by
  cases c with
  | true => exact ⟨_, rfl, (fun h => by cases h), (fun w h => by cases h; exact hv)⟩
  | false => exact h rfl
theorem prev_get {α : Type} {l l1 l2 : List α} {x p : α} {l0 : List α} (h : l = l1 ++ x :: l2) (h1 : l1 = l0 ++ [p]) : l[((l1.length : Nat) : Int).toNat - 1]? = some p ∧ l[l0.length]? = some p := by
  subst h h1; simp
section
variable {cells : List Int} {fs : List q0t} {is : List q0h} (hl : fs.length + is.length ≤ 1000)
include hl
theorem prevs {l1 l2 : List q0h} {x : q0h} (h : is = l1 ++ x :: l2) : ∃ b : Bool, (bif decide (((l1.length : Nat) : Int) > (0 : Int)) then bif decide ((0 : Int) ≤ IntKind.i64.wrap (((l1.length : Nat) : Int) - (1 : Int))) && true then is[(IntKind.i64.wrap (((l1.length : Nat) : Int) - (1 : Int))).toNat]?.bind fun t_2 => some (Op.bytesLess (ByteArray.toList x.1) (ByteArray.toList t_2.1) || ByteArray.toList x.1 == ByteArray.toList t_2.1) else none else some false) = some b ∧ (b = false ↔ afterB is l1.length x) := by
  rcases List.eq_nil_or_concat l1 with rfl | ⟨l0, p, rfl⟩
  · exact ⟨false, rfl, fun _ j p hj => by simp at hj, fun _ => rfl⟩
  · simp only [List.concat_eq_append] at h ⊢
    have hlen : (l0 ++ [p]).length = l0.length + 1 := by simp
    have hl0 : l0.length ≤ 1000 := by have := hl; rw [h] at this; simp at this; omega
    have e1 : decide ((((l0 ++ [p]).length : Nat) : Int) > (0 : Int)) = true := by rw [decide_eq_true_eq, hlen]; omega
    have w : IntKind.i64.wrap ((((l0 ++ [p]).length : Nat) : Int) - (1 : Int)) = ((l0.length : Nat) : Int) := by rw [q00 (by rw [hlen]; omega) (by rw [hlen]; omega), hlen]; omega
    have hp : is[l0.length]? = some p := (prev_get h rfl).2
    refine ⟨(Op.bytesLess x.1.toList p.1.toList || x.1.toList == p.1.toList), by simp only [e1, w, ge0, cond_true, Int.toNat_natCast, hp, q0c], ?_, ?_⟩
    · intro hb j q hj hq
      rw [hlen] at hj
      have : j = l0.length := by omega
      subst this
      rw [hp] at hq
      cases hq
      exact hb
    · intro ha
      exact ha l0.length p hlen hp
theorem j38 (hK : 2000 ≤ K) : ∀ (l2 l1 : List q0h) (k : Nat), is = l1 ++ l2 → l2.length < k →
    ∃ r, q1b.l3.f K k ((l1.length : Nat) : Int) fs is = some r ∧ (r = .inl () → ∀ (i : Nat) m, l2[i]? = some m → j28 fs is (l1.length + i) m) ∧ ∀ v, r = .inr v → v.1 ≠ 0
  | l2, l1, 0, h, hk => by omega
  | [], l1, k + 1, h, hk => by
    rw [q1b.l3.f]
    simp only [q2e h, cond_false]
    exact ⟨_, rfl, fun _ i v hv => by simp at hv, fun n h => by cases h⟩
  | x :: l2, l1, k + 1, h, hk => by
    rw [q1b.l3.f]
    have hl1 : l1.length ≤ 1000 := by have := hl; rw [h] at this; simp at this; omega
    obtain ⟨nb, n1, n2⟩ := named4 (K := K) (by omega) x.1
    obtain ⟨pb, p1, p2⟩ := prevs (hl := hl) h
    simp only [q2b h, ge0, q2w h, cond_true, q0c, q0y (l1 := l1) (x := x) (by omega), n1, z9t hl hK, q03, q8e, c_or]
    try simp only [q8e] at p1
    rw [p1]
    simp only [q0c]
    refine stopV (by dsimp only; decide) fun h1 => stopV (by dsimp only; decide) fun h2 => stopV (by dsimp only; decide) fun h3 => stopV (by dsimp only; decide) fun h4 => ?_
    obtain ⟨r, f1, f2, f3⟩ := j38 hK l2 (l1 ++ [x]) k (q09 h) (by simp at hk; omega)
    refine ⟨r, f1, fun hr i y hy => ?_, f3⟩
    simp at h1 h3 h4
    cases i with
    | zero =>
      simp at hy
      subst hy
      exact ⟨n2 h1, p2.1 h2, h3, h4⟩
    | succ i =>
      have := f2 hr i y (by simpa using hy)
      rw [List.length_append] at this
      rwa [show l1.length + (i + 1) = l1.length + [x].length + i by simp; omega]
end
theorem check4_ok (hK : 2000 ≤ K) {cells : List Int} {fs : List q0t} {is : List q0h} (hl : fs.length + is.length ≤ 1000) (hf : fits fs) : ∃ r, q1b.f K cells fs is = some r ∧ (r.1 = 0 → WF cells fs is) := by
  unfold q1b.f
  simp only [q03, q0c, q8e, c_or, q9s hl]
  cases hc : (decide (((cells.length : Nat) : Int) > (16 : Int)) || decide (((fs.length + is.length : Nat) : Int) > (24 : Int))) with
  | true => exact ⟨_, rfl, fun h => by cases h⟩
  | false =>
    simp only [cond_false]
    obtain ⟨r, g1, g2, g3⟩ := j3l (K := K) (cells := cells) hl hK hf fs [] K rfl (by omega)
    rw [show q1b.l0.f K K (0 : Int) cells fs is = some r from g1]
    simp only [q0c]
    cases r with
    | inr v => exact ⟨_, rfl, fun h => absurd h (g3 v rfl)⟩
    | inl u =>
      simp only [Sum.elim_inl]
      obtain ⟨r, i1, i2, i3⟩ := j38 (K := K) (fs := fs) (is := is) hl hK is [] K rfl (by omega)
      rw [show q1b.l3.f K K (0 : Int) fs is = some r from i1]
      simp only [q0c]
      cases r with
      | inr v => exact ⟨_, rfl, fun h => absurd h (i3 v rfl)⟩
      | inl u =>
        refine ⟨_, rfl, fun _ => ?_⟩
        simp at hc
        exact ⟨by omega, by omega, fun i f hi => by simpa using g2 rfl i f hi, fun i m hi => by simpa using i2 rfl i m hi⟩
theorem j2r (hK : 2000 ≤ K) {cells : List Int} {fs : List q0t} {is : List q0h} (hl : fs.length + is.length ≤ 1000) {regs : Int} {l : List q32} (hll : l.length ≤ 1000) (ho : ∀ x ∈ l, z1i cells.length (arities fs is) regs x) (hla : ∀ x ∈ l, x.2.2.2.2.2.length ≤ 1000) : ∀ (l2 l1 : List q32) (k : Nat), l = l1 ++ l2 → l2.length < k →
    q36.l0.f K k l ((l.length : Nat) : Int) ((l1.length : Nat) : Int) cells fs is regs = some (.inl ())
  | l2, l1, 0, h, hk => by omega
  | [], l1, k + 1, h, hk => by
    rw [q36.l0.f]
    simp only [q2e h, cond_false]
  | x :: l2, l1, k + 1, h, hk => by
    rw [q36.l0.f]
    have hl1 : l1.length ≤ 1000 := by rw [h] at hll; simp at hll; omega
    have hx : x ∈ l := by rw [h]; simp
    simp only [q2b h, ge0, q2w h, cond_true, q0c, q0y (l1 := l1) (x := x) (by omega), insn_val hK hl (hla x hx) (ho x hx), show ((0 : Int) != 0) = false from rfl, cond_false]
    exact j2r hK hl hll ho hla l2 (l1 ++ [x]) k (q09 h) (by simp at hk; omega)
theorem z7i {nc : Nat} {ar : List Int} {regs : Int} {x : q32} (h : z1i nc ar regs x) (har : ∀ v ∈ ar, v ≤ 4) : x.2.2.2.2.2.length ≤ 4 := by
  have h1 := h.args
  have h2 := h.b
  by_cases h17 : x.1 = 17
  · rw [if_neg (by rw [h17]; decide), if_neg (by omega), if_pos h17] at h2
    obtain ⟨⟨q1, q2⟩, q3⟩ := h2
    unfold arI at q3
    rw [if_pos q1] at q3
    split at q3
    · rename_i v hv
      have := har v (List.mem_of_getElem? hv)
      omega
    · omega
  · rw [if_neg h17] at h1
    rw [h1]; simp
theorem WF.ar_le {cells : List Int} {fs : List q0t} {is : List q0h} (h : WF cells fs is) : ∀ v ∈ arities fs is, v ≤ 4 := by
  intro v hv
  rcases List.mem_append.1 hv with hv | hv
  · obtain ⟨f, hf, rfl⟩ := List.mem_map.1 hv
    obtain ⟨i, hi⟩ := List.mem_iff_getElem?.1 hf
    exact (h.funcs i f hi).1.arity.2
  · obtain ⟨m, hm, rfl⟩ := List.mem_map.1 hv
    obtain ⟨i, hi⟩ := List.mem_iff_getElem?.1 hm
    exact (h.imports i m hi).arity.2
theorem block_val (hK : 2000 ≤ K) {cells : List Int} {fs : List q0t} {is : List q0h} (hl : fs.length + is.length ≤ 1000) (har : ∀ v ∈ arities fs is, v ≤ 4) {regs : Int} {bs : List q1k} {b : q1k} (h : z8f cells.length (arities fs is) regs bs.length b) :
    q36.f K cells fs is regs bs b.1 b.2.1 b.2.2.1 b.2.2.2.1 b.2.2.2.2 = some Err.nil := by
  unfold q36.f
  have h12 := h.len
  have e0 : decide (((b.1.length : Nat) : Int) > (12 : Int)) = false := by simp; omega
  have l0 : q36.l0.f K K b.1 ((b.1.length : Nat) : Int) (0 : Int) cells fs is regs = some (.inl ()) := j2r hK hl (by omega) h.insns (fun x hx => by have := z7i (h.insns x hx) har; omega) b.1 [] K rfl (by omega)
  have e := end_val (K := K) (regs := regs) (bs := bs) (o := b.2.1) (a := b.2.2.1) (t := b.2.2.2.1) (e := b.2.2.2.2) h.fin
  simp only [e0, cond_false, l0, q0c, Sum.elim_inl, e, show ((0 : Int) != 0) = false from rfl]
theorem func_l0 (hK : 2000 ≤ K) {cells : List Int} {fs : List q0t} {is : List q0h} (hl : fs.length + is.length ≤ 1000) (har : ∀ v ∈ arities fs is, v ≤ 4) {p : Int} (hp : 0 ≤ p) {f : q0t} (hf : fs[p.toNat]? = some f) {l : List q1k} (hll : l.length ≤ 1000) (ho : ∀ b ∈ l, z8f cells.length (arities fs is) f.2.2.1 f.2.2.2.length b) : ∀ (l2 l1 : List q1k) (k : Nat), l = l1 ++ l2 → l2.length < k →
    q3d.l0.f K k p l ((l.length : Nat) : Int) ((l1.length : Nat) : Int) cells fs is = some (.inl ())
  | l2, l1, 0, h, hk => by omega
  | [], l1, k + 1, h, hk => by
    rw [q3d.l0.f]
    simp only [q2e h, cond_false]
  | x :: l2, l1, k + 1, h, hk => by
    rw [q3d.l0.f]
    have hl1 : l1.length ≤ 1000 := by rw [h] at hll; simp at hll; omega
    have hx : x ∈ l := by rw [h]; simp
    simp only [q2b h, ge0, q2w h, cond_true, q0c, q0y (l1 := l1) (x := x) (by omega), decide_eq_true hp, Bool.and_true, hf, block_val hK hl har (ho x hx), Err.isNil, Bool.not_true, cond_false]
    exact func_l0 hK hl har hp hf hll ho l2 (l1 ++ [x]) k (q09 h) (by simp at hk; omega)
theorem j0h (hK : 2000 ≤ K) {cells : List Int} {fs : List q0t} {is : List q0h} (h : WF cells fs is) {i : Nat} {f : q0t} (hi : fs[i]? = some f) : q3d.f K cells fs is ((i : Nat) : Int) = some Err.nil := by
  have hl : fs.length + is.length ≤ 1000 := by have := h.count; omega
  obtain ⟨ok, hn⟩ := h.funcs i f hi
  unfold q3d.f q7m.f
  have hb := ok.blocks
  have hr := ok.regs
  have ha := ok.arity
  have l0 : q3d.l0.f K K ((i : Nat) : Int) f.2.2.2 ((f.2.2.2.length : Nat) : Int) (0 : Int) cells fs is = some (.inl ()) := func_l0 hK hl h.ar_le (by omega) (by simpa using hi) (by omega) ok.each f.2.2.2 [] K rfl (by omega)
  have e1 : decide (fndI (names fs is) f.1 < ((i : Nat) : Int)) = false := by simp; omega
  have e2 : (decide (0 ≤ f.2.1) && decide (f.2.1 < 5)) = true := by simp; omega
  have e3 : decide (f.2.2.1 < if (1 : Int) > f.2.1 then (1 : Int) else f.2.1) = false := by simp; split <;> omega
  have e4 : decide (f.2.2.1 > (8 : Int)) = false := by simp; omega
  have e5 : decide (((f.2.2.2.length : Nat) : Int) < (1 : Int)) = false := by simp; omega
  have e6 : decide (((f.2.2.2.length : Nat) : Int) > (12 : Int)) = false := by simp; omega
  simp only [ge0, cond_true, Int.toNat_natCast, hi, q0c, j0s (K := K) (by omega) ok.name, Bool.not_true, cond_false, j2s hl hK, e1, q53, e2, q03, e3, e4, e5, e6, show ((0 : Int) != 0) = false from rfl, l0, Sum.elim_inl]
theorem j0i (hK : 2000 ≤ K) {cells : List Int} {fs : List q0t} {is : List q0h} (h : WF cells fs is) {l1 l2 : List q0h} {x : q0h} (hi : is = l1 ++ x :: l2) : q47.f K fs is ((l1.length : Nat) : Int) = some 0 := by
  have hl : fs.length + is.length ≤ 1000 := by have := h.count; omega
  have ok := h.imports l1.length x (by rw [hi]; simp)
  obtain ⟨pb, p1, p2⟩ := prevs (hl := hl) hi
  have hpb := p2.2 ok.after
  subst hpb
  have ha := ok.arity
  unfold q47.f
  have e1 : decide (fndI (names fs is) x.1 < ((fs.length : Nat) : Int)) = false := by have := ok.new; simp; omega
  have e2 : (decide (0 ≤ x.2) && decide (x.2 < 5)) = true := by simp; omega
  simp only [ge0, cond_true, q2w hi, q0c, j0s (K := K) (by omega) ok.name, Bool.not_true, cond_false, q03, p1, j2s hl hK, e1, q53, e2]
theorem z9b (hK : 2000 ≤ K) {cells : List Int} {fs : List q0t} {is : List q0h} (h : WF cells fs is) : ∀ (l2 l1 : List q0t) (k : Nat), fs = l1 ++ l2 → l2.length < k → q4o.l0.f K k ((fs.length : Nat) : Int) ((l1.length : Nat) : Int) cells fs is = some (.inl ())
  | l2, l1, 0, hh, hk => by omega
  | [], l1, k + 1, hh, hk => by
    rw [q4o.l0.f]
    simp only [q2e hh, cond_false]
  | x :: l2, l1, k + 1, hh, hk => by
    rw [q4o.l0.f]
    have hl1 : l1.length ≤ 1000 := by have := h.count; rw [hh] at this; simp at this; omega
    simp only [q2b hh, cond_true, j0h hK h (show fs[l1.length]? = some x by rw [hh]; simp), q0c, Err.isNil, Bool.not_true, cond_false, q0y (l1 := l1) (x := x) (by omega)]
    exact z9b hK h l2 (l1 ++ [x]) k (q09 hh) (by simp at hk; omega)
theorem z8u (hK : 2000 ≤ K) {cells : List Int} {fs : List q0t} {is : List q0h} (h : WF cells fs is) : ∀ (l2 l1 : List q0h) (k : Nat), is = l1 ++ l2 → l2.length < k → q4o.l1.f K k ((is.length : Nat) : Int) ((l1.length : Nat) : Int) fs is = some (.inl ())
  | l2, l1, 0, hh, hk => by omega
  | [], l1, k + 1, hh, hk => by
    rw [q4o.l1.f]
    simp only [q2e hh, cond_false]
  | x :: l2, l1, k + 1, hh, hk => by
    rw [q4o.l1.f]
    have hl1 : l1.length ≤ 1000 := by have := h.count; rw [hh] at this; simp at this; omega
    simp only [q2b hh, cond_true, j0i hK h hh, q0c, show ((0 : Int) != 0) = false from rfl, cond_false, q0y (l1 := l1) (x := x) (by omega)]
    exact z8u hK h l2 (l1 ++ [x]) k (q09 hh) (by simp at hk; omega)
theorem z23 (hK : 2000 ≤ K) {cells : List Int} {fs : List q0t} {is : List q0h} (h : WF cells fs is) : q4o.f K cells fs is = some Err.nil := by
  unfold q4o.f
  have hc := h.ncells
  have hn := h.count
  have w : IntKind.i64.wrap (((fs.length : Nat) : Int) + ((is.length : Nat) : Int)) = ((fs.length + is.length : Nat) : Int) := by rw [q00 (by omega) (by omega)]; simp
  have e1 : decide (((cells.length : Nat) : Int) > (16 : Int)) = false := by simp; omega
  have e2 : decide (((fs.length + is.length : Nat) : Int) > (24 : Int)) = false := by simp; omega
  have l0 : q4o.l0.f K K ((fs.length : Nat) : Int) (0 : Int) cells fs is = some (.inl ()) := z9b hK h fs [] K rfl (by omega)
  have l1 : q4o.l1.f K K ((is.length : Nat) : Int) (0 : Int) fs is = some (.inl ()) := z8u hK h is [] K rfl (by omega)
  simp only [q03, w, e1, e2, cond_false, q0c, l0, l1, Sum.elim_inl]
end Go.Proofs.YtdjkdmjdcdljmaaGreatDoor.AF
namespace Go.Proofs.YtdjkdmjdcdljmaaGreatDoor.AF
open Go.Proofs.q0a
set_option maxRecDepth 100000
set_option maxHeartbeats 4000000
variable {K : Nat}
def encN : Nat → Nat → List Int
  | 0, n => [((n : Nat) : Int)]
  | f + 1, n => if n < 128 then [((n : Nat) : Int)] else (((n % 128 + 128 : Nat)) : Int) :: encN f (n / 128)
abbrev encU (n : Nat) : List Int := encN 9 n
theorem q9t {n : Nat} (h : n < 128) : encU n = [((n : Nat) : Int)] := by simp [encU, encN, h]
theorem z7g : ∀ (f n : Nat), 1 ≤ (encN f n).length ∧ (encN f n).length ≤ f + 1
  | 0, n => by simp [encN]
  | f + 1, n => by
    have := z7g f (n / 128)
    unfold encN
    split <;> simp <;> omega
theorem z0z {n : Nat} (h : n < 18446744073709551616) : (BitVec.ofInt 64 ((n : Nat) : Int)).toNat = n := by
  simp [BitVec.toNat_ofInt]; omega
theorem toNat8_of {n : Nat} (h : n < 256) : (BitVec.ofInt 8 ((n : Nat) : Int)).toNat = n := by
  simp [BitVec.toNat_ofInt]; omega
theorem and127 {n : Nat} (h : n < 18446744073709551616) : (BitVec.ofInt 64 ((n : Nat) : Int) &&& BitVec.ofInt 64 (127 : Int)).toNat = n % 128 := by
  rw [BitVec.toNat_and, z0z h]
  show n &&& 127 = n % 128
  exact Nat.and_two_pow_sub_one_eq_mod n 7
theorem and127b {n : Nat} (h : n < 256) : (BitVec.ofInt 8 ((n : Nat) : Int) &&& BitVec.ofInt 8 (127 : Int)).toNat = n % 128 := by
  rw [BitVec.toNat_and, toNat8_of h]
  show n &&& 127 = n % 128
  exact Nat.and_two_pow_sub_one_eq_mod n 7
theorem or128 : ∀ n : Fin 128, (BitVec.ofInt 8 ((n.val : Nat) : Int) ||| BitVec.ofInt 8 (128 : Int)).toNat = n.val + 128 := by decide +kernel
theorem and128 : ∀ n : Fin 256, (BitVec.ofInt 8 ((n.val : Nat) : Int) &&& BitVec.ofInt 8 (128 : Int)).toNat = if n.val < 128 then 0 else 128 := by decide +kernel
theorem q8c {b : Int} {l : List Int} (h : l.length < 1000000) : q0v.f K b l = some (l ++ [b]) := by
  unfold q0v.f
  have : Nat.ble (l.length + [b].length) 1000000 = true := Nat.ble_eq_true_of_le (by simp; omega)
  rw [this]; rfl
theorem uint_l0 : ∀ (f n k : Nat) (l : List Int), n < 128 ^ (f + 1) → n < 18446744073709551616 → f < k → l.length + f + 1 ≤ 1000000 → ∃ m : Nat, m < 128 ∧ ∃ l', q0i.l0.f K k ((n : Nat) : Int) l = some (((m : Nat) : Int), l') ∧ l' ++ [((m : Nat) : Int)] = l ++ encN f n ∧ l'.length < 1000000
  | f, n, 0, l, hn, hn2, hk, hl => by omega
  | f, n, k + 1, l, hn, hn2, hk, hl => by
    rw [q0i.l0.f]
    by_cases h : n < 128
    · have e : decide (((n : Nat) : Int) > (127 : Int)) = false := by simp; omega
      simp only [e, cond_false]
      refine ⟨n, h, l, rfl, ?_, by omega⟩
      cases f <;> simp [encN, h]
    · have e : decide (((n : Nat) : Int) > (127 : Int)) = true := by simp; omega
      have b1 : IntKind.u8.wrap (IntKind.u64.wrap (((BitVec.ofInt 64 ((n : Nat) : Int) &&& BitVec.ofInt 64 (127 : Int)).toNat : Nat) : Int)) = ((n % 128 : Nat) : Int) := by
        rw [and127 hn2, q4b (by omega) (by omega), q90 (by omega) (by omega)]
      have b2 : IntKind.u8.wrap (((BitVec.ofInt 8 ((n % 128 : Nat) : Int) ||| BitVec.ofInt 8 (128 : Int)).toNat : Nat) : Int) = ((n % 128 + 128 : Nat) : Int) := by
        rw [or128 ⟨n % 128, by omega⟩, q90 (by omega) (by omega)]
      have b3 : (((n : Nat) : Int).fdiv ((2 : Int) ^ 7)) = ((n / 128 : Nat) : Int) := by
        rw [Int.fdiv_eq_ediv_of_nonneg _ (by decide)]; simp
      match f, hn, hk, hl with
      | 0, hn, _, _ => exact absurd hn (by simpa using h)
      | f + 1, hn, hk, hl =>
        simp only [e, cond_true, b1, b2, b3, q8c (K := K) (l := l) (show l.length < 1000000 by omega), q0c]
        obtain ⟨m, h1, l', h2, h3, h4⟩ := uint_l0 f (n / 128) k (l ++ [((n % 128 + 128 : Nat) : Int)]) (by rw [Nat.pow_succ] at hn; exact Nat.div_lt_of_lt_mul (by rw [Nat.mul_comm]; exact hn)) (by omega) (by omega) (by simp; omega)
        refine ⟨m, h1, l', h2, ?_, h4⟩
        rw [h3]
        simp [encN, h]
theorem z14 (hK : 2000 ≤ K) {n : Nat} {l : List Int} (hn : n < 18446744073709551616) (hl : l.length + 10 ≤ 1000000) : q0i.f K ((n : Nat) : Int) l = some (l ++ encU n) := by
  unfold q0i.f
  obtain ⟨m, h1, l', h2, h3, h4⟩ := uint_l0 (K := K) 9 n K l (by omega) hn (by omega) hl
  rw [h2]
  simp only [q0c, q90 (n := ((m : Nat) : Int)) (by omega) (by omega), q8c (K := K) (l := l') h4, h3]
theorem q8l (hK : 2000 ≤ K) {n : Int} {l : List Int} (h0 : 0 ≤ n) (hn : n < 128) (hl : l.length + 10 ≤ 1000000) : q0i.f K (IntKind.u64.wrap n) l = some (l ++ [n]) := by
  obtain ⟨m, rfl⟩ : ∃ m : Nat, n = m := ⟨n.toNat, by omega⟩
  rw [q4b (by omega) (by omega), z14 hK (by omega) hl, q9t (by omega)]
theorem or_add {a b i : Nat} (h : b < 2 ^ i) : b ||| a * 2 ^ i = b + a * 2 ^ i := by
  rw [Nat.or_comm, ← Nat.shiftLeft_eq, Nat.add_comm]
  exact (Nat.shiftLeft_add_eq_or_of_lt h a).symm
theorem look_l0 {most : Nat} : ∀ (f i acc n k : Nat) (l pre post : List Int) (p : Nat), acc < 2 ^ (7 * i) → acc + n * 2 ^ (7 * i) < 18446744073709551616 → n < 128 ^ (f + 1) → (0 < i → 0 < n) → i ≤ 9 → l = pre ++ (encN f n ++ post) → pre.length = p + i → l.length ≤ 1000000 → f < k → acc + n * 2 ^ (7 * i) ≤ most →
    q21.l0.f K k ((most : Nat) : Int) ((acc : Nat) : Int) ((i : Nat) : Int) l ((p : Nat) : Int) = some (.inr (((acc + n * 2 ^ (7 * i) : Nat) : Int), ((i + (encN f n).length : Nat) : Int), 0))
  | f, i, acc, n, 0, l, pre, post, p, ha, hv, hn, hi, h9, h, hp, hl, hk, hm => by omega
  | f, i, acc, n, k + 1, l, pre, post, p, ha, hv, hn, hi, h9, h, hp, hl, hk, hm => by
    rw [q21.l0.f]
    have hpl : p + i < l.length := by
      have := congrArg List.length h
      have := z7g f n
      simp at *
      omega
    have e1 : decide (((i : Nat) : Int) < (10 : Int)) = true := by simp; omega
    have w1 : IntKind.i64.wrap (((p : Nat) : Int) + ((i : Nat) : Int)) = ((p + i : Nat) : Int) := by rw [q00 (by omega) (by omega)]; simp
    have e2 : (((p + i : Nat) : Int) == ((l.length : Nat) : Int)) = false := beq_eq_false_iff_ne.2 (by omega)
    have w2 : IntKind.i64.wrap ((7 : Int) * ((i : Nat) : Int)) = ((7 * i : Nat) : Int) := by rw [q00 (by omega) (by omega)]; simp
    have w3 : IntKind.i64.wrap (((i : Nat) : Int) + (1 : Int)) = ((i + 1 : Nat) : Int) := by rw [q00 (by omega) (by omega)]; simp
    have e3 : decide (((7 * i : Nat) : Int) < (0 : Int)) = false := by simp; omega
    have hmin : min (7 * i) 64 = 7 * i := by omega
    have hP : 0 < 2 ^ (7 * i) := Nat.two_pow_pos _
    have bits : ∀ c : Nat, c < 256 → acc + (c % 128) * 2 ^ (7 * i) < 18446744073709551616 → IntKind.u64.wrap (((BitVec.ofInt 64 ((acc : Nat) : Int) ||| BitVec.ofInt 64 (IntKind.u64.wrap (IntKind.u64.wrap (IntKind.u8.wrap (((BitVec.ofInt 8 ((c : Nat) : Int) &&& BitVec.ofInt 8 (127 : Int)).toNat : Nat) : Int)) * (2 : Int) ^ min (7 * i) 64))).toNat : Nat) : Int) = ((acc + (c % 128) * 2 ^ (7 * i) : Nat) : Int) := by
      intro c hc hb
      have hle : (c % 128) * 2 ^ (7 * i) < 18446744073709551616 := by omega
      have q : ((c % 128 : Nat) : Int) * (2 : Int) ^ (7 * i) = (((c % 128) * 2 ^ (7 * i) : Nat) : Int) := by simp
      rw [and127b hc, q90 (by omega) (by omega), q4b (n := ((c % 128 : Nat) : Int)) (by omega) (by omega), hmin, q, q4b (n := (((c % 128) * 2 ^ (7 * i) : Nat) : Int)) (Int.natCast_nonneg _) (by omega), BitVec.toNat_or, z0z (by omega), z0z hle, or_add ha, q4b (by omega) (by omega)]
    have small : ∀ c : Nat, c < 256 → IntKind.u8.wrap (((BitVec.ofInt 8 ((c : Nat) : Int) &&& BitVec.ofInt 8 (128 : Int)).toNat : Nat) : Int) = if c < 128 then 0 else 128 := by
      intro c hc
      rw [and128 ⟨c, hc⟩]
      split <;> simp_all [q90] <;> (first | rfl | skip)
    by_cases h128 : n < 128
    · have hc : l[p + i]? = some ((n : Nat) : Int) := by
        have : encN f n = [((n : Nat) : Int)] := by cases f <;> simp [encN, h128]
        rw [h, this, ← hp]
        simp
      have hlen : (encN f n).length = 1 := by cases f <;> simp [encN, h128]
      have hm9 : i = 9 → n ≤ 1 := fun h9 => by
        subst h9
        have : 2 ^ (7 * 9) = 9223372036854775808 := rfl
        rw [this] at hv
        omega
      have e4 : (bif ((i : Nat) : Int) == (9 : Int) then some (decide (((n : Nat) : Int) > (1 : Int))) else some false) = some false := by
        by_cases hi9 : i = 9
        · have := hm9 hi9
          have e : decide (((n : Nat) : Int) > (1 : Int)) = false := by simp; omega
          simp [e]
        · have : (((i : Nat) : Int) == (9 : Int)) = false := beq_eq_false_iff_ne.2 (by omega)
          simp [this]
      have e5 : (bif ((n : Nat) : Int) == (0 : Int) then some (decide (((i : Nat) : Int) > (0 : Int))) else some false) = some false := by
        by_cases hn0 : n = 0
        · subst hn0
          have : i = 0 := Decidable.byContradiction fun hh => absurd (hi (by omega)) (by omega)
          subst this
          rfl
        · have : (((n : Nat) : Int) == (0 : Int)) = false := beq_eq_false_iff_ne.2 (by omega)
          simp [this]
      have hmod : n % 128 = n := Nat.mod_eq_of_lt h128
      have bb := bits n (by omega) (by rw [hmod]; exact hv)
      rw [hmod] at bb
      have e6 : decide (((acc + n * 2 ^ (7 * i) : Nat) : Int) > ((most : Nat) : Int)) = false := by
        have : ¬ (((acc + n * 2 ^ (7 * i) : Nat) : Int) > ((most : Nat) : Int)) := by omega
        exact decide_eq_false this
      have sm := small n (by omega)
      rw [if_pos h128] at sm
      simp only [e1, cond_true, w1, e2, cond_false, ge0, hc, q0c, q03, e4, w2, e3, sm, show ((0 : Int) != 0) = false from rfl, e5, Int.toNat_natCast, bb, e6, w3, hlen]
    · match f, hn, hk with
      | 0, hn, _ => exact absurd hn (by simpa using h128)
      | f + 1, hn, hk =>
        have henc : encN (f + 1) n = ((n % 128 + 128 : Nat) : Int) :: encN f (n / 128) := by simp [encN, h128]
        have hc : l[p + i]? = some ((n % 128 + 128 : Nat) : Int) := by
          rw [h, henc, ← hp]
          simp
        have hi8 : i ≤ 8 := Decidable.byContradiction fun hh => by
          have : i = 9 := by omega
          subst this
          have : 2 ^ (7 * 9) = 9223372036854775808 := rfl
          rw [this] at hv
          omega
        have e4 : (((i : Nat) : Int) == (9 : Int)) = false := beq_eq_false_iff_ne.2 (by omega)
        have hmod : (n % 128 + 128) % 128 = n % 128 := by omega
        have hsplit : n * 2 ^ (7 * i) = (n % 128) * 2 ^ (7 * i) + (n / 128) * 2 ^ (7 * (i + 1)) := by
          have e : 2 ^ (7 * (i + 1)) = 128 * 2 ^ (7 * i) := by rw [show 7 * (i + 1) = 7 + 7 * i by omega, Nat.pow_add]
          rw [e, ← Nat.mul_assoc, ← Nat.add_mul]
          congr 1
          omega
        have bb := bits (n % 128 + 128) (by omega) (by rw [hmod]; omega)
        rw [hmod] at bb
        have sm := small (n % 128 + 128) (by omega)
        rw [if_neg (by omega)] at sm
        simp only [e1, cond_true, w1, e2, cond_false, ge0, hc, q0c, q03, e4, w2, e3, sm, show ((128 : Int) != 0) = true from rfl, Int.toNat_natCast, bb, w3]
        have ih := look_l0 (most := most) f (i + 1) (acc + n % 128 * 2 ^ (7 * i)) (n / 128) k l (pre ++ [((n % 128 + 128 : Nat) : Int)]) post p ?_ (by omega) ?_ (by omega) (by omega) (by rw [h, henc]; simp) (by simp; omega) hl (by omega) (by omega)
        · rw [ih, henc]
          simp only [List.length_cons]
          congr 4
          · omega
          · congr 1; omega
        · have e : 2 ^ (7 * (i + 1)) = 128 * 2 ^ (7 * i) := by rw [show 7 * (i + 1) = 7 + 7 * i by omega, Nat.pow_add]
          rw [e]
          have : n % 128 * 2 ^ (7 * i) ≤ 127 * 2 ^ (7 * i) := Nat.mul_le_mul_right _ (by omega)
          omega
        · rw [Nat.pow_succ] at hn; exact Nat.div_lt_of_lt_mul (by rw [Nat.mul_comm]; exact hn)
theorem z7k (hK : 2000 ≤ K) {most n : Nat} {l pre post : List Int} (h : l = pre ++ (encU n ++ post)) (hl : l.length ≤ 1000000) (hn : n < 18446744073709551616) (hm : n ≤ most) : q21.f K ((most : Nat) : Int) l ((pre.length : Nat) : Int) = some (((n : Nat) : Int), (((encU n).length : Nat) : Int), 0) := by
  unfold q21.f
  have := look_l0 (K := K) (most := most) 9 0 0 n K l pre post pre.length (by simp) (by simpa using hn) (by omega) (by omega) (by omega) h (by simp) hl (by omega) (by simpa using hm)
  simp only [Nat.zero_add, Nat.mul_zero, Nat.pow_zero, Nat.mul_one] at this
  rw [show q21.l0.f K K ((most : Nat) : Int) (0 : Int) (0 : Int) l ((pre.length : Nat) : Int) = _ from this]
  rfl
theorem q9p (hK : 2000 ≤ K) {most n : Nat} {l pre post : List Int} (h : l = pre ++ (encU n ++ post)) (hl : l.length ≤ 1000000) (hn : n < 18446744073709551616) (hm : n ≤ most) : q16.f K ((most : Nat) : Int) l ((pre.length : Nat) : Int) = some (((n : Nat) : Int), Err.nil, (((pre ++ encU n).length : Nat) : Int)) := by
  unfold q16.f
  have hlen : (pre ++ encU n).length ≤ 1000000 := by have := congrArg List.length h; simp at *; omega
  simp only [z7k hK h hl hn hm, q0c, show ((0 : Int) != 0) = false from rfl, cond_false]
  rw [q00 (by omega) (by simp at hlen; omega)]
  simp
end Go.Proofs.YtdjkdmjdcdljmaaGreatDoor.AF
namespace Go.Proofs.YtdjkdmjdcdljmaaGreatDoor.AF
open Go.Proofs.q0a
set_option maxRecDepth 100000
set_option maxHeartbeats 4000000
variable {K : Nat}
def i64 (n : Int) : Prop := -9223372036854775808 ≤ n ∧ n < 9223372036854775808
def zz (n : Int) : Nat := if 0 ≤ n then (2 * n).toNat else (-2 * n - 1).toNat
abbrev encI (n : Int) : List Int := encU (zz n)
theorem j4h {n : Int} (h : i64 n) : zz n < 18446744073709551616 := by unfold zz; unfold i64 at h; split <;> omega
theorem j2u {n : Nat} (h : n < 18446744073709551616) : (BitVec.ofInt 64 ((n : Nat) : Int) ^^^ BitVec.allOnes 64).toNat = 18446744073709551615 - n := by
  rw [BitVec.xor_allOnes, BitVec.toNat_not, z0z h]
theorem j4n : BitVec.ofInt 64 (18446744073709551615 : Int) = BitVec.allOnes 64 := by decide
theorem ofInt_m1 : BitVec.ofInt 64 (-1 : Int) = BitVec.allOnes 64 := by decide
theorem z88 {n : Nat} (h : n < 18446744073709551616) : (BitVec.ofInt 64 ((n : Nat) : Int) ^^^ BitVec.ofInt 64 (0 : Int)).toNat = n := by
  have : BitVec.ofInt 64 (0 : Int) = 0#64 := by decide
  rw [this, BitVec.xor_zero, z0z h]
theorem wrapU (n : Int) : IntKind.u64.wrap n = n % 18446744073709551616 := by simp [Go.IntKind.wrap, Go.IntKind.bits, Go.IntKind.signed]
theorem zig_val {n : Int} (h : i64 n) : IntKind.u64.wrap (((BitVec.ofInt 64 (IntKind.u64.wrap (IntKind.u64.wrap n * (2 : Int) ^ 1)) ^^^ BitVec.ofInt 64 (IntKind.u64.wrap (n.fdiv ((2 : Int) ^ 63)))).toNat : Nat) : Int) = ((zz n : Nat) : Int) := by
  unfold i64 at h
  unfold zz
  have e63 : n.fdiv ((2 : Int) ^ 63) = n / 9223372036854775808 := by rw [Int.fdiv_eq_ediv_of_nonneg _ (by decide)]; rfl
  rw [e63]
  by_cases h0 : 0 ≤ n
  · rw [if_pos h0]
    have a1 : IntKind.u64.wrap n = n := q4b h0 (by omega)
    have a2 : IntKind.u64.wrap (n * (2 : Int) ^ 1) = ((2 * n).toNat : Nat) := by rw [wrapU]; omega
    have a3 : IntKind.u64.wrap (n / 9223372036854775808) = 0 := by rw [wrapU]; omega
    rw [a1, a2, a3, z88 (by omega), q4b (by omega) (by omega)]
  · rw [if_neg h0]
    have a2 : IntKind.u64.wrap (IntKind.u64.wrap n * (2 : Int) ^ 1) = ((2 * n + 18446744073709551616).toNat : Nat) := by rw [wrapU, wrapU]; omega
    have a3 : IntKind.u64.wrap (n / 9223372036854775808) = 18446744073709551615 := by rw [wrapU]; omega
    rw [a2, a3, j4n, j2u (by omega), q4b (by omega) (by omega)]
    omega
theorem zag_val {n : Int} (h : i64 n) : IntKind.i64.wrap (((BitVec.ofInt 64 (IntKind.i64.wrap (((zz n : Nat) : Int).fdiv ((2 : Int) ^ 1))) ^^^ BitVec.ofInt 64 (IntKind.i64.wrap ((0 : Int) - IntKind.i64.wrap (IntKind.u64.wrap (((BitVec.ofInt 64 ((zz n : Nat) : Int) &&& BitVec.ofInt 64 (1 : Int)).toNat : Nat) : Int))))).toNat : Nat) : Int) = n := by
  have hz := j4h h
  have e1 : ((zz n : Nat) : Int).fdiv ((2 : Int) ^ 1) = ((zz n / 2 : Nat) : Int) := by rw [Int.fdiv_eq_ediv_of_nonneg _ (by decide)]; simp
  have e2 : (BitVec.ofInt 64 ((zz n : Nat) : Int) &&& BitVec.ofInt 64 (1 : Int)).toNat = zz n % 2 := by
    rw [BitVec.toNat_and, z0z hz]
    show zz n &&& 1 = zz n % 2
    exact Nat.and_two_pow_sub_one_eq_mod (zz n) 1
  rw [e1, e2, q00 (n := ((zz n / 2 : Nat) : Int)) (by omega) (by omega), q4b (by omega) (by omega), q00 (n := ((zz n % 2 : Nat) : Int)) (by omega) (by omega), q00 (n := (0 : Int) - ((zz n % 2 : Nat) : Int)) (by omega) (by omega)]
  unfold i64 at h
  by_cases h0 : 0 ≤ n
  · have e : zz n = (2 * n).toNat := by unfold zz; rw [if_pos h0]
    have e3 : (0 : Int) - ((zz n % 2 : Nat) : Int) = 0 := by omega
    rw [e3, z88 (by omega), q00 (by omega) (by omega)]
    omega
  · have e : zz n = (-2 * n - 1).toNat := by unfold zz; rw [if_neg h0]
    have e3 : (0 : Int) - ((zz n % 2 : Nat) : Int) = -1 := by omega
    rw [e3, ofInt_m1, j2u (by omega), Go.IntKind.wrap_i64]
    omega
theorem z8k (hK : 2000 ≤ K) {n : Int} {l : List Int} (h : i64 n) (hl : l.length + 10 ≤ 1000000) : q19.f K n l = some (l ++ encI n) := by
  unfold q19.f
  rw [zig_val h, z14 hK (j4h h) hl]
def z2l (op : Int) : Bool := z0e op || (op == 13 || (op == 14 || op == 17))
def q5o (x : q32) : List Int :=
  [x.1] ++ ((if q76 x.1 then [x.2.1] else []) ++ ((if q88 x.1 then [x.2.2.1] else []) ++ ((if z2l x.1 then [x.2.2.2.1] else []) ++
    ((if x.1 = 1 then encI x.2.2.2.2.1 else []) ++ (if x.1 = 17 then ((x.2.2.2.2.2.length : Nat) : Int) :: x.2.2.2.2.2 else [])))))
theorem z44 {a l : List Int} (h : l.length + a.length ≤ 1000000) : q3l.f K a l = some (l ++ a) := by
  unfold q3l.f
  rw [Nat.ble_eq_true_of_le h]; rfl
theorem z6v (hK : 2000 ≤ K) {l : List Int} (hl : l.length ≤ 1000) (hr : ∀ v ∈ l, 0 ≤ v ∧ v < 128) : ∀ (l2 l1 : List Int) (k : Nat) (w : List Int), l = l1 ++ l2 → l2.length < k → w.length + l2.length + 10 ≤ 1000000 →
    q5i.l0.f K k l ((l.length : Nat) : Int) ((l1.length : Nat) : Int) w = some (w ++ l2)
  | l2, l1, 0, w, h, hk, hw => by omega
  | [], l1, k + 1, w, h, hk, hw => by
    rw [q5i.l0.f]
    simp only [q2e h, cond_false, List.append_nil]
  | x :: l2, l1, k + 1, w, h, hk, hw => by
    rw [q5i.l0.f]
    have hl1 : l1.length ≤ 1000 := by rw [h] at hl; simp at hl; omega
    have hx := hr x (by rw [h]; simp)
    simp only [q2b h, ge0, q2w h, cond_true, q0c, q8l hK hx.1 hx.2 (l := w) (by simp at hw; omega), q0y (l1 := l1) (x := x) (by omega)]
    rw [z6v hK hl hr l2 (l1 ++ [x]) k (w ++ [x]) (q09 h) (by simp at hk; omega) (by simp at hw ⊢; omega)]
    simp
structure lowI (x : q32) : Prop where
  op : 1 ≤ x.1 ∧ x.1 ≤ 17
  d : 0 ≤ x.2.1 ∧ x.2.1 < 128
  a : 0 ≤ x.2.2.1 ∧ x.2.2.1 < 128
  b : 0 ≤ x.2.2.2.1 ∧ x.2.2.2.1 < 128
  n : i64 x.2.2.2.2.1
  len : x.2.2.2.2.2.length ≤ 4
  args : ∀ v ∈ x.2.2.2.2.2, 0 ≤ v ∧ v < 128
theorem z1i.low {nc : Nat} {ar : List Int} {regs : Int} {x : q32} (h : z1i nc ar regs x) (hr : regs ≤ 8) (hc : nc ≤ 16) (har : ar.length ≤ 24) (ha : ∀ v ∈ ar, v ≤ 4) (hn : i64 x.2.2.2.2.1) : lowI x := by
  obtain ⟨op, d, a, b, n, g⟩ := h
  refine ⟨op, ?_, ?_, ?_, hn, z7i ⟨op, d, a, b, n, g⟩ ha, ?_⟩
  · split at d
    · unfold reg at d; omega
    · omega
  · split at a
    · unfold reg at a; omega
    · omega
  · split at b
    · unfold reg at b; omega
    · split at b
      · unfold reg at b; omega
      · split at b
        · have := b.1; unfold reg at this; omega
        · omega
  · split at g
    · intro v hv; have := g v hv; unfold reg at this; omega
    · rw [g]; intro v hv; simp at hv
theorem j1u (hK : 2000 ≤ K) {op d a b n : Int} {args w : List Int} (h : lowI (op, d, a, b, n, args)) (hw : w.length + 60 ≤ 1000000) : q5i.f K op d a b n args w = some (w ++ q5o (op, d, a, b, n, args)) := by
  obtain ⟨⟨h1, h2⟩, hd, ha, hb, hn, hl, hg⟩ := h
  dsimp only at *
  unfold q5i.f q5o
  dsimp only
  have hop := z1b h1 h2
  have u : ∀ {v : Int} {l : List Int}, 0 ≤ v ∧ v < 128 → l.length + 10 ≤ 1000000 → q0i.f K (IntKind.u64.wrap v) l = some (l ++ [v]) := fun hv hl => q8l hK hv.1 hv.2 hl
  have by_ : q0v.f K (IntKind.u8.wrap op) w = some (w ++ [op]) := by rw [q90 (by omega) (by omega)]; exact q8c (by omega)
  rw [by_]
  by_cases h17 : op = 17
  · subst h17
    have e := z6v (K := K) hK (l := args) (by omega) hg args [] K (w ++ [17] ++ [d] ++ [b] ++ [((args.length : Nat) : Int)]) rfl (by omega) (by simp; omega)
    have e' : q5i.l0.f K K args ((args.length : Nat) : Int) (0 : Int) (w ++ [17] ++ [d] ++ [b] ++ [((args.length : Nat) : Int)]) = _ := e
    simp only [q81.f, show ((17 : Int) == 1) = false from rfl, show ((17 : Int) == 15) = false from rfl, show ((17 : Int) == 2) = false from rfl, show ((17 : Int) == 3) = false from rfl, show ((17 : Int) == 4) = false from rfl, show ((17 : Int) == 5) = false from rfl, show ((17 : Int) == 6) = false from rfl, show ((17 : Int) == 7) = false from rfl, show ((17 : Int) == 8) = false from rfl, show ((17 : Int) == 9) = false from rfl, show ((17 : Int) == 10) = false from rfl, show ((17 : Int) == 11) = false from rfl, show ((17 : Int) == 12) = false from rfl, show ((17 : Int) == 13) = false from rfl, show ((17 : Int) == 14) = false from rfl, show ((17 : Int) == 16) = false from rfl, show ((17 : Int) == 17) = true from rfl, cond_true, cond_false, q0c,
      u hd (l := w ++ [17]) (by simp; omega), u hb (l := w ++ [17] ++ [d]) (by simp; omega), u (v := ((args.length : Nat) : Int)) (by omega) (l := w ++ [17] ++ [d] ++ [b]) (by simp; omega), e']
    simp [q76, q88, z0e, z2l]
  · rcases hop with rfl | rfl | rfl | rfl | rfl | rfl | rfl | rfl | rfl | rfl | rfl | rfl | rfl | rfl | rfl | rfl | rfl <;> first | exact absurd rfl h17 | skip
    case inl =>
      have i := z8k (K := K) hK hn (l := w ++ [1] ++ [d]) (by simp; omega)
      simp only [List.append_assoc, List.cons_append, List.nil_append] at i
      simp [q81.f, u hd (l := w ++ [1]) (by simp; omega), i, q76, q88, z0e, z2l]
    all_goals
      first
      | (simp [q81.f, u hd (l := w ++ [_]) (by simp; omega), u ha (l := w ++ [_, d]) (by simp; omega), u hb (l := w ++ [_, d, a]) (by simp; omega), u hb (l := w ++ [_, d]) (by simp; omega), u ha (l := w ++ [_]) (by simp; omega), u hb (l := w ++ [_, a]) (by simp; omega), q76, q88, z0e, z2l]; done)
end Go.Proofs.YtdjkdmjdcdljmaaGreatDoor.AF
namespace Go.Proofs.YtdjkdmjdcdljmaaGreatDoor.AF
open Go.Proofs.q0a
set_option maxRecDepth 100000
set_option maxHeartbeats 4000000
variable {K : Nat}
theorem q6q (n : Nat) : (encU n).length ≤ 10 := (z7g 9 n).2
theorem q89 (n : Int) : (encI n).length ≤ 10 := q6q _
theorem z1p {x : q32} (h : lowI x) : (q5o x).length ≤ 14 := by
  obtain ⟨⟨h1, h2⟩, hd, ha, hb, hn, hl, hg⟩ := h
  have hop := z1b h1 h2
  have := q89 x.2.2.2.2.1
  unfold q5o
  rcases hop with h | h | h | h | h | h | h | h | h | h | h | h | h | h | h | h | h <;> rw [h] <;> simp [q76, q88, z0e, z2l] <;> omega
def z0l (e : LEnd) : List Int := [e.1] ++ ((if e.1 = 1 then [] else [e.2.1]) ++ ((if e.1 = 3 then [] else [e.2.2.1]) ++ (if e.1 = 2 then [e.2.2.2] else [])))
structure lowE (e : LEnd) : Prop where
  op : 1 ≤ e.1 ∧ e.1 ≤ 3
  a : 0 ≤ e.2.1 ∧ e.2.1 < 128
  t : 0 ≤ e.2.2.1 ∧ e.2.2.1 < 128
  e : 0 ≤ e.2.2.2 ∧ e.2.2.2 < 128
theorem z3n.low {regs : Int} {nb : Nat} {e : LEnd} (h : z3n regs nb e) (hr : regs ≤ 8) (hb : nb ≤ 12) : lowE e := by
  obtain ⟨op, a, t, el⟩ := h
  refine ⟨op, ?_, ?_, ?_⟩
  · split at a
    · omega
    · unfold reg at a; omega
  · split at t
    · omega
    · unfold reg at t; omega
  · split at el
    · unfold reg at el; omega
    · omega
theorem j47 (e : LEnd) : (z0l e).length ≤ 4 := by
  unfold z0l
  by_cases h1 : e.1 = 1 <;> by_cases h3 : e.1 = 3 <;> by_cases h2 : e.1 = 2 <;> simp [h1, h2, h3]
theorem j4f (hK : 2000 ≤ K) {o a t e : Int} {w : List Int} (h : lowE (o, a, t, e)) (hw : w.length + 60 ≤ 1000000) : q8v.f K o a t e w = some (w ++ z0l (o, a, t, e)) := by
  obtain ⟨⟨h1, h2⟩, hA, ht, he⟩ := h
  dsimp only at *
  unfold q8v.f z0l
  have u : ∀ {v : Int} {l : List Int}, 0 ≤ v ∧ v < 128 → l.length + 10 ≤ 1000000 → q0i.f K (IntKind.u64.wrap v) l = some (l ++ [v]) := fun hv hl => q8l hK hv.1 hv.2 hl
  have by_ : q0v.f K (IntKind.u8.wrap o) w = some (w ++ [o]) := by rw [q90 (by omega) (by omega)]; exact q8c (by omega)
  rw [by_]
  have : o = 1 ∨ o = 2 ∨ o = 3 := by omega
  rcases this with rfl | rfl | rfl
  · simp [u ht (l := w ++ [1]) (by simp; omega)]
  · simp [u hA (l := w ++ [2]) (by simp; omega), u ht (l := w ++ [2, a]) (by simp; omega), u he (l := w ++ [2, a, t]) (by simp; omega)]
  · simp [u hA (l := w ++ [3]) (by simp; omega)]
def q44 (b : q1k) : List Int := ((b.1.length : Nat) : Int) :: (b.1.flatMap q5o ++ z0l b.2)
structure lowB (b : q1k) : Prop where
  len : b.1.length ≤ 12
  insns : ∀ x ∈ b.1, lowI x
  fin : lowE b.2
theorem q56 {α : Type} {f : α → List Int} {c : Nat} : ∀ {l : List α}, (∀ x ∈ l, (f x).length ≤ c) → (l.flatMap f).length ≤ c * l.length
  | [], _ => by simp
  | x :: l, h => by
    have h1 := h x (by simp)
    have h2 := q56 (l := l) fun y hy => h y (by simp [hy])
    simp only [List.flatMap_cons, List.length_append, List.length_cons, Nat.mul_add]
    omega
theorem z3c {b : q1k} (h : lowB b) : (q44 b).length ≤ 173 := by
  have h1 := q56 (f := q5o) (c := 14) fun x hx => z1p (h.insns x hx)
  have h2 := j47 b.2
  have h3 := h.len
  have h4 : 14 * b.1.length ≤ 14 * 12 := Nat.mul_le_mul_left _ h3
  simp only [q44, List.length_cons, List.length_append]
  omega
theorem z59 (hK : 2000 ≤ K) {l : List q32} (hl : l.length ≤ 12) (hr : ∀ x ∈ l, lowI x) : ∀ (l2 l1 : List q32) (k : Nat) (w : List Int), l = l1 ++ l2 → l2.length < k → w.length + 14 * l2.length + 100 ≤ 1000000 →
    q3y.l1.f K k l ((l.length : Nat) : Int) ((l1.length : Nat) : Int) w = some (w ++ l2.flatMap q5o)
  | l2, l1, 0, w, h, hk, hw => by omega
  | [], l1, k + 1, w, h, hk, hw => by
    rw [q3y.l1.f]
    simp only [q2e h, cond_false, List.flatMap_nil, List.append_nil]
  | x :: l2, l1, k + 1, w, h, hk, hw => by
    rw [q3y.l1.f]
    have hl1 : l1.length ≤ 12 := by rw [h] at hl; simp at hl; omega
    have hx := hr x (by rw [h]; simp)
    have hlen := z1p hx
    simp only [List.length_cons] at hw hk
    simp only [q2b h, ge0, q2w h, cond_true, q0c, j1u hK (op := x.1) (d := x.2.1) (a := x.2.2.1) (b := x.2.2.2.1) (n := x.2.2.2.2.1) (args := x.2.2.2.2.2) hx (w := w) (by omega), q0y (l1 := l1) (x := x) (by omega)]
    refine (z59 hK hl hr l2 (l1 ++ [x]) k _ (q09 h) (by omega) ?_).trans ?_
    · simp only [List.length_append]
      have : (q5o (x.1, x.2.1, x.2.2.1, x.2.2.2.1, x.2.2.2.2.1, x.2.2.2.2.2)).length ≤ 14 := hlen
      omega
    · simp only [List.flatMap_cons, List.append_assoc]
theorem z69 (hK : 2000 ≤ K) {l : List q1k} (hl : l.length ≤ 12) (hr : ∀ b ∈ l, lowB b) : ∀ (l2 l1 : List q1k) (k : Nat) (w : List Int), l = l1 ++ l2 → l2.length < k → w.length + 173 * l2.length + 400 ≤ 1000000 →
    q3y.l0.f K k l ((l.length : Nat) : Int) ((l1.length : Nat) : Int) w = some (w ++ l2.flatMap q44)
  | l2, l1, 0, w, h, hk, hw => by omega
  | [], l1, k + 1, w, h, hk, hw => by
    rw [q3y.l0.f]
    simp only [q2e h, cond_false, List.flatMap_nil, List.append_nil]
  | x :: l2, l1, k + 1, w, h, hk, hw => by
    rw [q3y.l0.f]
    have hl1 : l1.length ≤ 12 := by rw [h] at hl; simp at hl; omega
    have hx := hr x (by rw [h]; simp)
    have hlen := z3c hx
    have h12 := hx.len
    simp only [List.length_cons] at hw hk
    have g1 : q3y.l1.f K K x.1 ((x.1.length : Nat) : Int) (0 : Int) (w ++ [((x.1.length : Nat) : Int)]) = some (w ++ [((x.1.length : Nat) : Int)] ++ x.1.flatMap q5o) := z59 hK h12 hx.insns x.1 [] K _ rfl (by omega) (by simp only [List.length_append, List.length_cons, List.length_nil]; omega)
    have hfl := q56 (f := q5o) (c := 14) fun y hy => z1p (hx.insns y hy)
    have h4 : 14 * x.1.length ≤ 14 * 12 := Nat.mul_le_mul_left _ h12
    have g2 := j4f (K := K) hK (o := x.2.1) (a := x.2.2.1) (t := x.2.2.2.1) (e := x.2.2.2.2) (w := w ++ [((x.1.length : Nat) : Int)] ++ x.1.flatMap q5o) hx.fin (by simp only [List.length_append, List.length_cons, List.length_nil]; omega)
    simp only [q2b h, ge0, q2w h, cond_true, q0c, q8l hK (n := ((x.1.length : Nat) : Int)) (l := w) (by omega) (by omega) (by omega), g1, g2, q0y (l1 := l1) (x := x) (by omega)]
    have he : w ++ [((x.1.length : Nat) : Int)] ++ x.1.flatMap q5o ++ z0l (x.2.1, x.2.2.1, x.2.2.2.1, x.2.2.2.2) = w ++ q44 x := by simp [q44]
    rw [he]
    refine (z69 hK hl hr l2 (l1 ++ [x]) k _ (q09 h) (by omega) ?_).trans ?_
    · simp only [List.length_append]; omega
    · simp only [List.flatMap_cons, List.append_assoc]
def q4p (s : ByteArray) : List Int := ((s.size : Nat) : Int) :: bytesOf s
def q4q (f : q0t) : List Int := q4p f.1 ++ (f.2.1 :: f.2.2.1 :: ((f.2.2.2.length : Nat) : Int) :: f.2.2.2.flatMap q44)
structure lowF (f : q0t) : Prop where
  name : f.1.size ≤ 12
  arity : 0 ≤ f.2.1 ∧ f.2.1 ≤ 4
  regs : 0 ≤ f.2.2.1 ∧ f.2.2.1 ≤ 8
  len : f.2.2.2.length ≤ 12
  blocks : ∀ b ∈ f.2.2.2, lowB b
theorem z1m {f : q0t} (h : lowF f) : (q4q f).length ≤ 2092 := by
  have h1 := q56 (f := q44) (c := 173) fun x hx => z3c (h.blocks x hx)
  have h3 := h.len
  have h4 : 173 * f.2.2.2.length ≤ 173 * 12 := Nat.mul_le_mul_left _ h3
  have h5 := h.name
  simp only [q4q, q4p, List.length_cons, List.length_append, q3o]
  omega
theorem z4k (hK : 2000 ≤ K) {s : ByteArray} {w : List Int} (hs : s.size ≤ 12) (hw : w.length + 60 ≤ 1000000) : q1y.f K (bytesOf s) w = some (w ++ q4p s) := by
  unfold q1y.f
  have hb := q3o s
  rw [q8l hK (n := (((bytesOf s).length : Nat) : Int)) (by omega) (by omega) (by omega), q0c, z44 (by simp; omega), hb]
  simp [q4p]
theorem j1w (hK : 2000 ≤ K) {f : q0t} {w : List Int} (h : lowF f) (hw : w.length + 3000 ≤ 1000000) : q3y.f K f.1 f.2.1 f.2.2.1 f.2.2.2 w = some (w ++ q4q f) := by
  obtain ⟨hn, ha, hr, hl, hb⟩ := h
  unfold q3y.f
  have hbl := q3o f.1
  have e : Nat.ble f.1.size 1000000 = true := Nat.ble_eq_true_of_le (by omega)
  have hlen : (q4p f.1).length ≤ 13 := by simp [q4p, hbl]; omega
  have u : ∀ {v : Int} {l : List Int}, 0 ≤ v ∧ v < 128 → l.length + 10 ≤ 1000000 → q0i.f K (IntKind.u64.wrap v) l = some (l ++ [v]) := fun hv hl => q8l hK hv.1 hv.2 hl
  have g : q3y.l0.f K K f.2.2.2 ((f.2.2.2.length : Nat) : Int) (0 : Int) (w ++ q4p f.1 ++ [f.2.1] ++ [f.2.2.1] ++ [((f.2.2.2.length : Nat) : Int)]) = _ := z69 hK hl hb f.2.2.2 [] K _ rfl (by omega) (by
    have h4 : 173 * f.2.2.2.length ≤ 173 * 12 := Nat.mul_le_mul_left _ hl
    simp only [List.length_append, List.length_cons, List.length_nil]; omega)
  simp only [e, cond_true, z4k hK hn (w := w) (by omega), q0c, u (v := f.2.1) ⟨ha.1, by omega⟩ (l := w ++ q4p f.1) (by simp only [List.length_append]; omega),
    u (v := f.2.2.1) ⟨hr.1, by omega⟩ (l := w ++ q4p f.1 ++ [f.2.1]) (by simp only [List.length_append, List.length_cons, List.length_nil]; omega),
    u (v := ((f.2.2.2.length : Nat) : Int)) ⟨by omega, by omega⟩ (l := w ++ q4p f.1 ++ [f.2.1] ++ [f.2.2.1]) (by simp only [List.length_append, List.length_cons, List.length_nil]; omega), g]
  simp [q4q]
def q3i (m : q0h) : List Int := q4p m.1 ++ [m.2]
def q5h (cells : List Int) (fs : List q0t) (is : List q0h) : List Int :=
  [65, 86, 1] ++ (((cells.length : Nat) : Int) :: (cells.flatMap encI ++ (((fs.length : Nat) : Int) :: (fs.flatMap q4q ++ (((is.length : Nat) : Int) :: is.flatMap q3i)))))
structure lowM (cells : List Int) (fs : List q0t) (is : List q0h) : Prop where
  clen : cells.length ≤ 16
  cells : ∀ c ∈ cells, i64 c
  len : fs.length + is.length ≤ 24
  funcs : ∀ f ∈ fs, lowF f
  imports : ∀ m ∈ is, m.1.size ≤ 12 ∧ 0 ≤ m.2 ∧ m.2 ≤ 4
theorem j31 (hK : 2000 ≤ K) {l : List Int} (hl : l.length ≤ 16) (hr : ∀ c ∈ l, i64 c) : ∀ (l2 l1 : List Int) (k : Nat) (w : List Int), l = l1 ++ l2 → l2.length < k → w.length + 10 * l2.length + 100 ≤ 1000000 →
    q3n.l0.f K k l ((l.length : Nat) : Int) ((l1.length : Nat) : Int) w = some (w ++ l2.flatMap encI)
  | l2, l1, 0, w, h, hk, hw => by omega
  | [], l1, k + 1, w, h, hk, hw => by
    rw [q3n.l0.f]
    simp only [q2e h, cond_false, List.flatMap_nil, List.append_nil]
  | x :: l2, l1, k + 1, w, h, hk, hw => by
    rw [q3n.l0.f]
    have hl1 : l1.length ≤ 16 := by rw [h] at hl; simp at hl; omega
    have hx := hr x (by rw [h]; simp)
    have hlen := q89 x
    simp only [List.length_cons] at hw hk
    simp only [q2b h, ge0, q2w h, cond_true, q0c, z8k hK hx (l := w) (by omega), q0y (l1 := l1) (x := x) (by omega)]
    refine (j31 hK hl hr l2 (l1 ++ [x]) k _ (q09 h) (by omega) ?_).trans ?_
    · simp only [List.length_append]; omega
    · simp only [List.flatMap_cons, List.append_assoc]
theorem j3a (hK : 2000 ≤ K) {l : List q0t} (hl : l.length ≤ 24) (hr : ∀ f ∈ l, lowF f) : ∀ (l2 l1 : List q0t) (k : Nat) (w : List Int), l = l1 ++ l2 → l2.length < k → w.length + 2092 * l2.length + 3000 ≤ 1000000 →
    q3n.l1.f K k l ((l.length : Nat) : Int) ((l1.length : Nat) : Int) w = some (w ++ l2.flatMap q4q)
  | l2, l1, 0, w, h, hk, hw => by omega
  | [], l1, k + 1, w, h, hk, hw => by
    rw [q3n.l1.f]
    simp only [q2e h, cond_false, List.flatMap_nil, List.append_nil]
  | x :: l2, l1, k + 1, w, h, hk, hw => by
    rw [q3n.l1.f]
    have hl1 : l1.length ≤ 24 := by rw [h] at hl; simp at hl; omega
    have hx := hr x (by rw [h]; simp)
    have hlen := z1m hx
    simp only [List.length_cons] at hw hk
    simp only [q2b h, ge0, q2w h, cond_true, q0c, j1w hK hx (w := w) (by omega), q0y (l1 := l1) (x := x) (by omega)]
    refine (j3a hK hl hr l2 (l1 ++ [x]) k _ (q09 h) (by omega) ?_).trans ?_
    · simp only [List.length_append]; omega
    · simp only [List.flatMap_cons, List.append_assoc]
theorem z0a {m : q0h} (h : m.1.size ≤ 12) : (q3i m).length ≤ 14 := by
  simp only [q3i, q4p, List.length_append, List.length_cons, List.length_nil, q3o]; omega
theorem j21 (hK : 2000 ≤ K) {l : List q0h} (hl : l.length ≤ 24) (hr : ∀ m ∈ l, m.1.size ≤ 12 ∧ 0 ≤ m.2 ∧ m.2 ≤ 4) : ∀ (l2 l1 : List q0h) (k : Nat) (w : List Int), l = l1 ++ l2 → l2.length < k → w.length + 14 * l2.length + 100 ≤ 1000000 →
    q3n.l2.f K k l ((l.length : Nat) : Int) ((l1.length : Nat) : Int) w = some (w ++ l2.flatMap q3i)
  | l2, l1, 0, w, h, hk, hw => by omega
  | [], l1, k + 1, w, h, hk, hw => by
    rw [q3n.l2.f]
    simp only [q2e h, cond_false, List.flatMap_nil, List.append_nil]
  | x :: l2, l1, k + 1, w, h, hk, hw => by
    rw [q3n.l2.f]
    have hl1 : l1.length ≤ 24 := by rw [h] at hl; simp at hl; omega
    obtain ⟨q1, q2, q3⟩ := hr x (by rw [h]; simp)
    have e : Nat.ble x.1.size 1000000 = true := Nat.ble_eq_true_of_le (by omega)
    have hlen := z0a (m := x) q1
    have hlen2 : (q4p x.1).length ≤ 13 := by simp [q4p, q3o]; omega
    simp only [List.length_cons] at hw hk
    simp only [q2b h, ge0, q2w h, cond_true, q0c, e, z4k hK q1 (w := w) (by omega), q8l hK q2 (n := x.2) (by omega) (l := w ++ q4p x.1) (by simp only [List.length_append]; omega), q0y (l1 := l1) (x := x) (by omega)]
    refine (j21 hK hl hr l2 (l1 ++ [x]) k _ (q09 h) (by omega) ?_).trans ?_
    · simp only [List.length_append, List.length_cons, List.length_nil]; omega
    · simp [q3i]
theorem z09 {cells : List Int} {fs : List q0t} {is : List q0h} (h : lowM cells fs is) : (q5h cells fs is).length ≤ 60000 := by
  have a1 := q56 (f := encI) (c := 10) (l := cells) fun x hx => q89 x
  have a2 := q56 (f := q4q) (c := 2092) fun x hx => z1m (h.funcs x hx)
  have a3 := q56 (f := q3i) (c := 14) (l := is) fun x hx => z0a (h.imports x hx).1
  have h1 := h.clen
  have h2 := h.len
  simp only [q5h, List.length_append, List.length_cons, List.length_nil]
  omega
theorem write_val (hK : 2000 ≤ K) {cells : List Int} {fs : List q0t} {is : List q0h} (hwf : WF cells fs is) (h : lowM cells fs is) : q3n.f K cells fs is = some (q5h cells fs is, Err.nil) := by
  unfold q3n.f
  have a1 := q56 (f := encI) (c := 10) (l := cells) fun x hx => q89 x
  have a2 := q56 (f := q4q) (c := 2092) fun x hx => z1m (h.funcs x hx)
  have a3 := q56 (f := q3i) (c := 14) (l := is) fun x hx => z0a (h.imports x hx).1
  have hml := z09 h
  obtain ⟨h1, h2, h3, h4, h5⟩ := h
  have u : ∀ {v : Int} {l : List Int}, 0 ≤ v ∧ v < 128 → l.length + 10 ≤ 1000000 → q0i.f K (IntKind.u64.wrap v) l = some (l ++ [v]) := fun hv hl => q8l hK hv.1 hv.2 hl
  have g0 : q3n.l0.f K K cells ((cells.length : Nat) : Int) (0 : Int) ([] ++ [65, 86, 1] ++ [((cells.length : Nat) : Int)]) = _ := j31 hK h1 h2 cells [] K _ rfl (by omega) (by simp only [List.length_append, List.length_cons, List.length_nil]; omega)
  have g1 : q3n.l1.f K K fs ((fs.length : Nat) : Int) (0 : Int) ([] ++ [65, 86, 1] ++ [((cells.length : Nat) : Int)] ++ cells.flatMap encI ++ [((fs.length : Nat) : Int)]) = _ := j3a hK (by omega) h4 fs [] K _ rfl (by omega) (by simp only [List.length_append, List.length_cons, List.length_nil]; omega)
  have g2 : q3n.l2.f K K is ((is.length : Nat) : Int) (0 : Int) ([] ++ [65, 86, 1] ++ [((cells.length : Nat) : Int)] ++ cells.flatMap encI ++ [((fs.length : Nat) : Int)] ++ fs.flatMap q4q ++ [((is.length : Nat) : Int)]) = _ := j21 hK (by omega) h5 is [] K _ rfl (by omega) (by simp only [List.length_append, List.length_cons, List.length_nil]; omega)
  simp only [z23 hK hwf, q0c, Err.isNil, Bool.not_true, cond_true, cond_false, q5w.f, z44 (K := K) (a := [65, 86, 1]) (l := []) (by simp),
    u (v := ((cells.length : Nat) : Int)) ⟨by omega, by omega⟩ (l := [] ++ [65, 86, 1]) (by simp), g0,
    u (v := ((fs.length : Nat) : Int)) ⟨by omega, by omega⟩ (l := [] ++ [65, 86, 1] ++ [((cells.length : Nat) : Int)] ++ cells.flatMap encI) (by simp only [List.length_append, List.length_cons, List.length_nil]; omega), g1,
    u (v := ((is.length : Nat) : Int)) ⟨by omega, by omega⟩ (l := [] ++ [65, 86, 1] ++ [((cells.length : Nat) : Int)] ++ cells.flatMap encI ++ [((fs.length : Nat) : Int)] ++ fs.flatMap q4q) (by simp only [List.length_append, List.length_cons, List.length_nil]; omega), g2]
  have e : [] ++ [65, 86, 1] ++ [((cells.length : Nat) : Int)] ++ cells.flatMap encI ++ [((fs.length : Nat) : Int)] ++ fs.flatMap q4q ++ [((is.length : Nat) : Int)] ++ is.flatMap q3i = q5h cells fs is := by simp [q5h]
  rw [e]
  unfold q13.f q0q.f
  rw [Nat.ble_eq_true_of_le (by omega)]
  rfl
end Go.Proofs.YtdjkdmjdcdljmaaGreatDoor.AF
namespace Go.Proofs.YtdjkdmjdcdljmaaGreatDoor.AF
open Go.Proofs.q0a
set_option maxRecDepth 100000
set_option maxHeartbeats 4000000
variable {K : Nat}
theorem q5m (hK : 2000 ≤ K) {most v : Int} {l pre post : List Int} (h : l = pre ++ (v :: post)) (hl : l.length ≤ 1000000) (h0 : 0 ≤ v) (hm : v ≤ most) (h128 : most < 128) : q0s.f K most Err.nil l ((pre.length : Nat) : Int) = some (v, Err.nil, (((pre ++ [v]).length : Nat) : Int)) := by
  obtain ⟨n, rfl⟩ : ∃ n : Nat, v = n := ⟨v.toNat, by omega⟩
  obtain ⟨m, rfl⟩ : ∃ m : Nat, most = m := ⟨most.toNat, by omega⟩
  unfold q0s.f
  have hn : n < 128 := by omega
  have e := q9p (K := K) hK (most := m) (n := n) (l := l) (pre := pre) (post := post) (by rw [q9t hn]; exact h) hl (by omega) (by omega)
  rw [q9t hn] at e
  rw [q4b (n := ((m : Nat) : Int)) (by omega) (by omega), e]
  simp only [Err.isNil, Bool.not_true, cond_true, cond_false, q0c]
  rw [q00 (by omega) (by omega)]
theorem z68 (hK : 2000 ≤ K) {n : Int} {l pre post : List Int} (h : l = pre ++ (encI n ++ post)) (hl : l.length ≤ 1000000) (hn : i64 n) : q11.f K Err.nil l ((pre.length : Nat) : Int) = some (n, Err.nil, (((pre ++ encI n).length : Nat) : Int)) := by
  unfold q11.f q2u.f
  have e := q9p (K := K) hK (most := 18446744073709551615) (n := zz n) (l := l) (pre := pre) (post := post) h hl (j4h hn) (by have := j4h hn; omega)
  rw [show q16.f K (18446744073709551615 : Int) l ((pre.length : Nat) : Int) = _ from e]
  simp only [Err.isNil, Bool.not_true, cond_true, cond_false, q0c, zag_val hn]
theorem q5n {v : Int} {l pre post : List Int} (h : l = pre ++ (v :: post)) (hl : l.length ≤ 1000000) : q29.f K l ((pre.length : Nat) : Int) = some (v, Err.nil, (((pre ++ [v]).length : Nat) : Int)) := by
  unfold q29.f
  have hp : pre.length + 1 + post.length = l.length := by rw [h]; simp; omega
  have e1 : (((pre.length : Nat) : Int) == ((l.length : Nat) : Int)) = false := beq_eq_false_iff_ne.2 (by omega)
  have w1 : IntKind.i64.wrap (((pre.length : Nat) : Int) + (1 : Int)) = (((pre ++ [v]).length : Nat) : Int) := q0y (by omega)
  have w2 : IntKind.i64.wrap ((((pre ++ [v]).length : Nat) : Int) - (1 : Int)) = ((pre.length : Nat) : Int) := by rw [q00 (by omega) (by simp; omega)]; simp
  simp only [e1, cond_false, w1, w2, ge0, cond_true, q2w h, q0c]
theorem j2f {most v : Int} {l pre post : List Int} (h : l = pre ++ (v :: post)) (hl : l.length ≤ 1000000) (h0 : 1 ≤ v) (hm : v ≤ most) (h128 : most < 128) : q4g.f K most Err.nil l ((pre.length : Nat) : Int) = some (v, Err.nil, (((pre ++ [v]).length : Nat) : Int)) := by
  unfold q4g.f
  have e1 : decide (v < 1) = false := by simp; omega
  have e2 : decide (v > most) = false := by simp; omega
  simp only [Err.isNil, Bool.not_true, cond_true, cond_false, q0c, q1m.f, q5n h hl, q03, e1, q00 (n := v) (by omega) (by omega), e2]
noncomputable def optT {R : Type} (c : Bool) (K : Nat) (most : Int) (e : Err) (l : List Int) (p : Int) (f : Int → Err → Int → Option R) : Option R := bif c then (q0s.f K most e l p).bind fun t => f t.1 t.2.1 t.2.2 else f 0 e p
theorem j4l (e : Err) (l : List Int) (p : Int) : q3s.f K e l p = (q4g.f K 17 e l p).bind fun t => (q81.f K t.1).bind fun c => optT c.1 K 7 t.2.1 l t.2.2 fun d e p => optT c.2.1 K 7 e l p fun a e p => optT c.2.2.1 K c.2.2.2.1 e l p fun b e p =>
    bif t.1 == 1 then (q11.f K e l p).bind fun s => some (t.1, d, a, b, s.1, [], s.2.1, s.2.2) else bif t.1 == 17 then (q0s.f K 4 e l p).bind fun u => (q3s.l0.f K K u.1 0 u.2.1 l u.2.2 []).bind fun w => some (t.1, d, a, b, 0, w.2.2, w.1, w.2.1) else some (t.1, d, a, b, 0, [], e, p) := by
  rfl
theorem z76 (hK : 2000 ≤ K) {R : Type} {c : Bool} {most v : Int} {l pre post : List Int} {f : Int → Err → Int → Option R} (h : l = pre ++ ((if c then [v] else []) ++ post)) (hl : l.length ≤ 1000000) (h0 : 0 ≤ v) (hm : v ≤ most) (h128 : most < 128) (hc : c = false → v = 0) :
    optT c K most Err.nil l ((pre.length : Nat) : Int) f = f v Err.nil (((pre ++ (if c then [v] else [])).length : Nat) : Int) := by
  unfold optT
  cases c with
  | true => simp only [if_true] at h ⊢; rw [cond_true, q5m hK h hl h0 hm h128]; rfl
  | false => simp only [Bool.false_eq_true, if_false, List.append_nil, cond_false]; rw [hc rfl]
def z63 (op : Int) : Int := if op = 13 ∨ op = 14 then 15 else if op = 17 then 23 else 7
theorem j49 {op : Int} (h1 : 1 ≤ op) (h2 : op ≤ 17) : q81.f K op = some (q76 op, q88 op, z2l op, z63 op, true) := by
  rcases z1b h1 h2 with rfl | rfl | rfl | rfl | rfl | rfl | rfl | rfl | rfl | rfl | rfl | rfl | rfl | rfl | rfl | rfl | rfl <;> simp [q81.f, q76, q88, z0e, z2l, z63]
structure j2l (x : q32) : Prop where
  op : 1 ≤ x.1 ∧ x.1 ≤ 17
  d : 0 ≤ x.2.1 ∧ x.2.1 ≤ 7 ∧ (q76 x.1 = false → x.2.1 = 0)
  a : 0 ≤ x.2.2.1 ∧ x.2.2.1 ≤ 7 ∧ (q88 x.1 = false → x.2.2.1 = 0)
  b : 0 ≤ x.2.2.2.1 ∧ x.2.2.2.1 ≤ z63 x.1 ∧ (z2l x.1 = false → x.2.2.2.1 = 0)
  n : i64 x.2.2.2.2.1 ∧ (x.1 ≠ 1 → x.2.2.2.2.1 = 0)
  len : x.2.2.2.2.2.length ≤ 4 ∧ (x.1 ≠ 17 → x.2.2.2.2.2 = [])
  args : ∀ v ∈ x.2.2.2.2.2, 0 ≤ v ∧ v ≤ 7
theorem z1i.tight {nc : Nat} {ar : List Int} {regs : Int} {x : q32} (h : z1i nc ar regs x) (hr : regs ≤ 8) (hc : nc ≤ 16) (har : ar.length ≤ 24) (ha : ∀ v ∈ ar, v ≤ 4) (hn : i64 x.2.2.2.2.1) : j2l x := by
  have hal := z7i h ha
  obtain ⟨op, d, a, b, n, g⟩ := h
  refine ⟨op, ?_, ?_, ?_, ⟨hn, n⟩, ⟨hal, fun h17 => by rw [if_neg h17] at g; exact g⟩, ?_⟩
  · split at d
    · rename_i hu; unfold reg at d; exact ⟨by omega, by omega, fun h => by rw [hu] at h; cases h⟩
    · exact ⟨by omega, by omega, fun _ => d⟩
  · split at a
    · rename_i hu; unfold reg at a; exact ⟨by omega, by omega, fun h => by rw [hu] at h; cases h⟩
    · exact ⟨by omega, by omega, fun _ => a⟩
  · unfold z63 z2l
    split at b
    · rename_i hu
      unfold reg at b
      refine ⟨by omega, by split <;> (try split) <;> omega, fun h => by rw [hu] at h; simp at h⟩
    · split at b
      · rename_i hu h13
        unfold reg at b
        rw [if_pos h13]
        exact ⟨by omega, by omega, fun h => by rcases h13 with h13 | h13 <;> simp [h13] at h⟩
      · split at b
        · rename_i hu h13 h17
          have := b.1; unfold reg at this
          rw [if_neg h13, if_pos h17]
          exact ⟨by omega, by omega, fun h => by simp [h17] at h⟩
        · rename_i hu h13 h17
          rw [if_neg h13, if_neg h17]
          exact ⟨by omega, by omega, fun _ => b⟩
  · split at g
    · intro v hv; have := g v hv; unfold reg at this; omega
    · rw [g]; intro v hv; simp at hv
theorem j34 (hK : 2000 ≤ K) {n : Nat} {l post : List Int} (hl : l.length ≤ 1000000) (hn : n ≤ 4) : ∀ (r acc pre : List Int) (k : Nat), l = pre ++ (r ++ post) → acc.length + r.length = n → r.length < k → (∀ v ∈ r, 0 ≤ v ∧ v ≤ 7) →
    q3s.l0.f K k ((n : Nat) : Int) ((acc.length : Nat) : Int) Err.nil l ((pre.length : Nat) : Int) acc = some (Err.nil, (((pre ++ r).length : Nat) : Int), acc ++ r)
  | r, acc, pre, 0, h, hr, hk, hv => by omega
  | [], acc, pre, k + 1, h, hr, hk, hv => by
    rw [q3s.l0.f]
    have e : decide (((acc.length : Nat) : Int) < ((n : Nat) : Int)) = false := by simp at hr ⊢; omega
    simp only [e, cond_false, List.append_nil]
  | x :: r, acc, pre, k + 1, h, hr, hk, hv => by
    rw [q3s.l0.f]
    have e : decide (((acc.length : Nat) : Int) < ((n : Nat) : Int)) = true := by simp at hr ⊢; omega
    have hx := hv x (by simp)
    have u := q5m (K := K) hK (most := 7) (v := x) (l := l) (pre := pre) (post := r ++ post) h hl hx.1 hx.2 (by omega)
    have e4 : Nat.ble (acc.length + [x].length) 1000000 = true := Nat.ble_eq_true_of_le (by simp at hr ⊢; omega)
    simp only [e, cond_true, u, q0c, e4, q0y (l1 := acc) (x := x) (by simp at hr; omega)]
    rw [j34 (post := post) hK hl hn r (acc ++ [x]) (pre ++ [x]) k (by rw [h]; simp) (by simp at hr ⊢; omega) (by simp at hk; omega) (fun v hv' => hv v (by simp [hv']))]
    simp
theorem takeInsn (hK : 2000 ≤ K) {x : q32} {l pre post : List Int} (h : l = pre ++ (q5o x ++ post)) (hl : l.length ≤ 1000000) (hx : j2l x) :
    q3s.f K Err.nil l ((pre.length : Nat) : Int) = some (x.1, x.2.1, x.2.2.1, x.2.2.2.1, x.2.2.2.2.1, x.2.2.2.2.2, Err.nil, (((pre ++ q5o x).length : Nat) : Int)) := by
  obtain ⟨op, d, a, b, n, args⟩ := x
  obtain ⟨⟨h1, h2⟩, hd, ha, hb, hn, hal, hg⟩ := hx
  dsimp only at *
  rw [j4l]
  have hm : z63 op < 128 := by unfold z63; split <;> (try split) <;> omega
  simp only [q5o] at h ⊢
  rw [j2f (K := K) (most := 17) (v := op) (post := (if q76 op then [d] else []) ++ ((if q88 op then [a] else []) ++ ((if z2l op then [b] else []) ++ ((if op = 1 then encI n else []) ++ ((if op = 17 then ((args.length : Nat) : Int) :: args else []) ++ post))))) (by rw [h]; simp) hl h1 h2 (by omega)]
  simp only [q0c, j49 h1 h2]
  rw [z76 hK (v := d) (post := (if q88 op then [a] else []) ++ ((if z2l op then [b] else []) ++ ((if op = 1 then encI n else []) ++ ((if op = 17 then ((args.length : Nat) : Int) :: args else []) ++ post)))) (by rw [h]; simp) hl hd.1 hd.2.1 (by omega) hd.2.2]
  rw [z76 hK (v := a) (post := (if z2l op then [b] else []) ++ ((if op = 1 then encI n else []) ++ ((if op = 17 then ((args.length : Nat) : Int) :: args else []) ++ post))) (by rw [h]; simp) hl ha.1 ha.2.1 (by omega) ha.2.2]
  rw [z76 hK (v := b) (post := (if op = 1 then encI n else []) ++ ((if op = 17 then ((args.length : Nat) : Int) :: args else []) ++ post)) (by rw [h]; simp) hl hb.1 hb.2.1 hm hb.2.2]
  by_cases o1 : op = 1
  · have e1 : (op == 1) = true := by simp [o1]
    have hargs : args = [] := hal.2 (by omega)
    subst hargs
    have o17 : ¬ op = 17 := by omega
    simp only [e1, cond_true]
    rw [z68 hK (n := n) (post := post) (by rw [h]; simp [o1]) hl hn.1]
    simp [o1]
  · have e1 : (op == 1) = false := by simp [o1]
    have hn0 : n = 0 := hn.2 o1
    subst hn0
    simp only [e1, cond_false]
    by_cases o17 : op = 17
    · have e17 : (op == 17) = true := by simp [o17]
      simp only [e17, cond_true]
      rw [q5m hK (v := ((args.length : Nat) : Int)) (post := args ++ post) (by rw [h]; simp [o1, o17]) hl (by omega) (by omega) (by omega)]
      simp only [q0c]
      have t := j34 (K := K) hK (n := args.length) (l := l) (post := post) hl hal.1 args [] (((((pre ++ [op]) ++ if q76 op = true then [d] else []) ++ if q88 op = true then [a] else []) ++ if z2l op = true then [b] else []) ++ [((args.length : Nat) : Int)]) K (by rw [h]; simp [o1, o17]) (by simp) (by omega) hg
      rw [show q3s.l0.f K K ((args.length : Nat) : Int) (0 : Int) Err.nil l _ [] = _ from t]
      simp [o1, o17]
    · have e17 : (op == 17) = false := by simp [o17]
      have hargs : args = [] := hal.2 o17
      subst hargs
      simp only [e17, cond_false]
      simp [o1, o17]
end Go.Proofs.YtdjkdmjdcdljmaaGreatDoor.AF
namespace Go.Proofs.YtdjkdmjdcdljmaaGreatDoor.AF
open Go.Proofs.q0a
set_option maxRecDepth 100000
set_option maxHeartbeats 4000000
variable {K : Nat}
structure tightE (e : LEnd) : Prop where
  op : 1 ≤ e.1 ∧ e.1 ≤ 3
  a : 0 ≤ e.2.1 ∧ e.2.1 ≤ 7 ∧ (e.1 = 1 → e.2.1 = 0)
  t : 0 ≤ e.2.2.1 ∧ e.2.2.1 ≤ 11 ∧ (e.1 = 3 → e.2.2.1 = 0)
  e : 0 ≤ e.2.2.2 ∧ e.2.2.2 ≤ 11 ∧ (e.1 ≠ 2 → e.2.2.2 = 0)
theorem z3n.tight {regs : Int} {nb : Nat} {e : LEnd} (h : z3n regs nb e) (hr : regs ≤ 8) (hb : nb ≤ 12) : tightE e := by
  obtain ⟨op, a, t, el⟩ := h
  refine ⟨op, ?_, ?_, ?_⟩
  · split at a
    · exact ⟨by omega, by omega, fun _ => a⟩
    · unfold reg at a; exact ⟨by omega, by omega, fun h => by omega⟩
  · split at t
    · exact ⟨by omega, by omega, fun _ => t⟩
    · unfold reg at t; exact ⟨by omega, by omega, fun h => by omega⟩
  · split at el
    · unfold reg at el; exact ⟨by omega, by omega, fun h => by omega⟩
    · exact ⟨by omega, by omega, fun _ => el⟩
theorem takeEnd (hK : 2000 ≤ K) {e : LEnd} {l pre post : List Int} (h : l = pre ++ (z0l e ++ post)) (hl : l.length ≤ 1000000) (he : tightE e) :
    q63.f K Err.nil l ((pre.length : Nat) : Int) = some (e.1, e.2.1, e.2.2.1, e.2.2.2, Err.nil, (((pre ++ z0l e).length : Nat) : Int)) := by
  obtain ⟨o, a, t, x⟩ := e
  obtain ⟨⟨h1, h2⟩, ha, ht, hx⟩ := he
  dsimp only at *
  unfold q63.f
  simp only [z0l] at h ⊢
  rw [j2f (K := K) (most := 3) (v := o) (post := (if o = 1 then [] else [a]) ++ ((if o = 3 then [] else [t]) ++ ((if o = 2 then [x] else []) ++ post))) (by rw [h]; simp) hl h1 h2 (by omega)]
  have : o = 1 ∨ o = 2 ∨ o = 3 := by omega
  rcases this with rfl | rfl | rfl
  · have hx0 : x = 0 := hx.2.2 (by omega)
    have ha0 : a = 0 := ha.2.2 rfl
    subst hx0 ha0
    simp at h
    simp only [q0c, show ((1 : Int) != 1) = false from rfl, show ((1 : Int) != 3) = true from rfl, show ((1 : Int) == 2) = false from rfl, cond_true, cond_false]
    rw [q5m hK (v := t) (post := post) (by rw [h]; simp) hl ht.1 ht.2.1 (by omega)]
    simp
  · simp at h
    simp only [q0c, show ((2 : Int) != 1) = true from rfl, show ((2 : Int) != 3) = true from rfl, show ((2 : Int) == 2) = true from rfl, cond_true, cond_false]
    rw [q5m hK (v := a) (post := t :: x :: post) (by rw [h]; simp) hl ha.1 ha.2.1 (by omega)]
    simp only [q0c]
    rw [q5m hK (v := t) (post := x :: post) (by rw [h]; simp) hl ht.1 ht.2.1 (by omega)]
    simp only [q0c]
    rw [q5m hK (v := x) (post := post) (by rw [h]; simp) hl hx.1 hx.2.1 (by omega)]
    simp
  · have hx0 : x = 0 := hx.2.2 (by omega)
    have ht0 : t = 0 := ht.2.2 rfl
    subst hx0 ht0
    simp at h
    simp only [q0c, show ((3 : Int) != 1) = true from rfl, show ((3 : Int) != 3) = false from rfl, show ((3 : Int) == 2) = false from rfl, cond_true, cond_false]
    rw [q5m hK (v := a) (post := post) (by rw [h]; simp) hl ha.1 ha.2.1 (by omega)]
    simp
structure tightB (b : q1k) : Prop where
  len : b.1.length ≤ 12
  insns : ∀ x ∈ b.1, j2l x
  fin : tightE b.2
theorem z3h (hK : 2000 ≤ K) {n : Nat} {l post : List Int} (hl : l.length ≤ 1000000) (hn : n ≤ 12) : ∀ (r acc : List q32) (pre : List Int) (k : Nat), l = pre ++ (r.flatMap q5o ++ post) → acc.length + r.length = n → r.length < k → (∀ x ∈ r, j2l x) →
    q3v.l0.f K k ((n : Nat) : Int) ((acc.length : Nat) : Int) Err.nil l ((pre.length : Nat) : Int) acc = some (Err.nil, (((pre ++ r.flatMap q5o).length : Nat) : Int), acc ++ r)
  | r, acc, pre, 0, h, hr, hk, hv => by omega
  | [], acc, pre, k + 1, h, hr, hk, hv => by
    rw [q3v.l0.f]
    have e : decide (((acc.length : Nat) : Int) < ((n : Nat) : Int)) = false := by simp at hr ⊢; omega
    simp only [e, cond_false, List.append_nil, List.flatMap_nil]
  | x :: r, acc, pre, k + 1, h, hr, hk, hv => by
    rw [q3v.l0.f]
    have e : decide (((acc.length : Nat) : Int) < ((n : Nat) : Int)) = true := by simp at hr ⊢; omega
    have u := takeInsn (K := K) hK (x := x) (l := l) (pre := pre) (post := r.flatMap q5o ++ post) (by rw [h]; simp) hl (hv x (by simp))
    have e4 : Nat.ble (acc.length + [(x.1, x.2.1, x.2.2.1, x.2.2.2.1, x.2.2.2.2.1, x.2.2.2.2.2)].length) 1000000 = true := Nat.ble_eq_true_of_le (by simp at hr ⊢; omega)
    simp only [e, cond_true, u, q0c, e4, q0y (l1 := acc) (x := x) (by simp at hr; omega)]
    refine (z3h (post := post) hK hl hn r (acc ++ [x]) (pre ++ q5o x) k (by rw [h]; simp) (by simp at hr ⊢; omega) (by simp at hk; omega) (fun v hv' => hv v (by simp [hv']))).trans ?_
    simp
theorem takeBlock (hK : 2000 ≤ K) {b : q1k} {l pre post : List Int} (h : l = pre ++ (q44 b ++ post)) (hl : l.length ≤ 1000000) (hb : tightB b) :
    q3v.f K Err.nil l ((pre.length : Nat) : Int) = some (b.1, b.2.1, b.2.2.1, b.2.2.2.1, b.2.2.2.2, Err.nil, (((pre ++ q44 b).length : Nat) : Int)) := by
  obtain ⟨h1, h2, h3⟩ := hb
  unfold q3v.f
  simp only [q44] at h ⊢
  rw [q5m hK (v := ((b.1.length : Nat) : Int)) (post := b.1.flatMap q5o ++ z0l b.2 ++ post) (by rw [h]; simp) hl (by omega) (by omega) (by omega)]
  simp only [q0c]
  have t := z3h (K := K) hK (n := b.1.length) (l := l) (post := z0l b.2 ++ post) hl h1 b.1 [] (pre ++ [((b.1.length : Nat) : Int)]) K (by rw [h]; simp) (by simp) (by omega) h2
  rw [show q3v.l0.f K K ((b.1.length : Nat) : Int) (0 : Int) Err.nil l _ [] = _ from t]
  simp only [q0c]
  rw [takeEnd hK (e := b.2) (post := post) (by rw [h]; simp) hl h3]
  simp
theorem z74 (s : ByteArray) : strOf (bytesOf s) = s := by
  obtain ⟨d⟩ := s
  unfold strOf bytesOf
  congr 1
  apply Array.ext'
  rw [List.map_map]
  conv => rhs; rw [← List.map_id d.toList]
  refine List.map_congr_left fun b _ => ?_
  simp
theorem z0s {l : List Int} {p : Nat} (hp : p ≤ l.length) (hl : l.length ≤ 1000000) : q3b.f K l ((p : Nat) : Int) = some ((l.length - p : Nat) : Int) := by
  unfold q3b.f
  rw [q00 (by omega) (by omega)]
  rw [show ((l.length : Nat) : Int) - ((p : Nat) : Int) = ((l.length - p : Nat) : Int) by omega]
theorem z11 {x l pre post : List Int} (h : l = pre ++ (x ++ post)) (hl : l.length ≤ 1000000) : q2a.f K ((x.length : Nat) : Int) l ((pre.length : Nat) : Int) = some (x, Err.nil, (((pre ++ x).length : Nat) : Int)) := by
  unfold q2a.f
  have hlen : pre.length + x.length + post.length = l.length := by rw [h]; simp; omega
  have rl0 := z0s (K := K) (l := l) (p := pre.length) (by omega) hl
  have e1 : decide (((x.length : Nat) : Int) < (0 : Int)) = false := by simp
  have e2 : decide (((x.length : Nat) : Int) > ((l.length - pre.length : Nat) : Int)) = false := by simp; omega
  have w1 : IntKind.i64.wrap (((pre.length : Nat) : Int) + ((x.length : Nat) : Int)) = ((pre.length + x.length : Nat) : Int) := by rw [q00 (by omega) (by omega)]; simp
  have w2 : IntKind.i64.wrap (((pre.length + x.length : Nat) : Int) - ((x.length : Nat) : Int)) = ((pre.length : Nat) : Int) := by rw [q00 (by omega) (by omega)]; omega
  have e3 : (decide ((0 : Int) ≤ ((pre.length : Nat) : Int)) && decide (((pre.length : Nat) : Int) ≤ ((pre.length + x.length : Nat) : Int)) && decide (((pre.length + x.length : Nat) : Int) ≤ ((l.length : Nat) : Int)) && true) = true := by simp; omega
  have ed : List.drop pre.length (List.take (pre.length + x.length) l) = x := by
    rw [h, ← List.append_assoc, List.take_left' (by simp), List.drop_left]
  have e4 : q0p.f K x = some x := by
    unfold q0p.f
    rw [Nat.ble_eq_true_of_le (by omega)]; rfl
  rw [q03, q0c, e1, cond_false, rl0, q0c, e2, cond_false, w1, w2, e3, cond_true, Int.toNat_natCast, Int.toNat_natCast, ed, e4, q0c, List.length_append]
theorem j33 (hK : 2000 ≤ K) {s : ByteArray} {l pre post : List Int} (h : l = pre ++ (q4p s ++ post)) (hl : l.length ≤ 1000000) (hs : s.size ≤ 12) :
    q4y.f K Err.nil l ((pre.length : Nat) : Int) = some (s, Err.nil, (((pre ++ q4p s).length : Nat) : Int)) := by
  unfold q4y.f q2l.f
  have hbl := q3o s
  have hlen : pre.length + 1 + s.size + post.length = l.length := by rw [h]; simp [q4p, hbl]; omega
  have lk := z7k (K := K) hK (most := 18446744073709551615) (n := s.size) (l := l) (pre := pre) (post := bytesOf s ++ post) (by rw [h, q9t (by omega)]; simp [q4p]) hl (by omega) (by omega)
  rw [q9t (by omega)] at lk
  have lk' : q21.f K (18446744073709551615 : Int) l ((pre.length : Nat) : Int) = some (((s.size : Nat) : Int), (1 : Int), 0) := lk
  have w1 : IntKind.i64.wrap (((l.length - pre.length : Nat) : Int) - (1 : Int)) = ((l.length - pre.length - 1 : Nat) : Int) := by rw [q00 (by omega) (by omega)]; omega
  have w2 : IntKind.u64.wrap ((l.length - pre.length - 1 : Nat) : Int) = ((l.length - pre.length - 1 : Nat) : Int) := q4b (by omega) (by omega)
  have e1 : decide (((s.size : Nat) : Int) > ((l.length - pre.length - 1 : Nat) : Int)) = false := by simp; omega
  have w3 : IntKind.i64.wrap ((s.size : Nat) : Int) = ((s.size : Nat) : Int) := q00 (by omega) (by omega)
  have w4 : IntKind.i64.wrap (((pre.length : Nat) : Int) + (1 : Int)) = ((pre.length + 1 : Nat) : Int) := by rw [q00 (by omega) (by omega)]; simp
  have w5 : IntKind.i64.wrap (((pre.length + 1 : Nat) : Int) + ((s.size : Nat) : Int)) = ((pre.length + 1 + s.size : Nat) : Int) := by rw [q00 (by omega) (by omega)]; simp
  have w6 : IntKind.i64.wrap ((1 : Int) + ((s.size : Nat) : Int)) = ((1 + s.size : Nat) : Int) := by rw [q00 (by omega) (by omega)]; simp
  have w7 : IntKind.i64.wrap (((pre.length : Nat) : Int) + ((1 + s.size : Nat) : Int)) = ((pre.length + 1 + s.size : Nat) : Int) := by rw [q00 (by omega) (by omega)]; omega
  have e2 : (decide (((0 : Nat) : Int) ≤ ((pre.length + 1 + s.size : Nat) : Int)) && decide (((pre.length + 1 + s.size : Nat) : Int) ≤ ((l.length : Nat) : Int)) && true) = true := by simp; omega
  have hsub : List.take (pre.length + 1 + s.size) l = pre ++ ([((s.size : Nat) : Int)] ++ bytesOf s) := by
    rw [h]
    simp only [q4p, List.cons_append]
    rw [List.take_append]
    simp [hbl, show pre.length + 1 + s.size - pre.length = s.size + 1 by omega]
    exact List.take_of_length_le (by omega)
  have rl := z0s (K := K) (l := pre ++ ([((s.size : Nat) : Int)] ++ bytesOf s)) (p := pre.length + 1) (by simp) (by simp [hbl]; omega)
  have hlx : ((pre ++ ([((s.size : Nat) : Int)] ++ bytesOf s)).length - (pre.length + 1) : Nat) = (bytesOf s).length := by simp; omega
  rw [hlx] at rl
  have rr := z11 (K := K) (x := bytesOf s) (l := pre ++ ([((s.size : Nat) : Int)] ++ bytesOf s)) (pre := pre ++ [((s.size : Nat) : Int)]) (post := []) (by simp) (by simp [hbl]; omega)
  have hp1 : (pre ++ [((s.size : Nat) : Int)]).length = pre.length + 1 := by simp
  rw [hp1] at rr
  simp only [Err.isNil, Bool.not_true, cond_true, cond_false, lk', q0c, show ((0 : Int) != 0) = false from rfl, z0s (K := K) (l := l) (p := pre.length) (by omega) hl, w1, w2, e1, w3, w4, w5, w6, w7, e2, Int.toNat_natCast, List.drop_zero, hsub, rl, rr, z74]
  simp [q4p, hbl]
  omega
end Go.Proofs.YtdjkdmjdcdljmaaGreatDoor.AF
namespace Go.Proofs.YtdjkdmjdcdljmaaGreatDoor.AF
open Go.Proofs.q0a
set_option maxRecDepth 100000
set_option maxHeartbeats 4000000
variable {K : Nat}
structure tightF (f : q0t) : Prop where
  name : f.1.size ≤ 12
  arity : 0 ≤ f.2.1 ∧ f.2.1 ≤ 4
  regs : 0 ≤ f.2.2.1 ∧ f.2.2.1 ≤ 8
  len : f.2.2.2.length ≤ 12
  blocks : ∀ b ∈ f.2.2.2, tightB b
theorem z43 (hK : 2000 ≤ K) {n : Nat} {l post : List Int} (hl : l.length ≤ 1000000) (hn : n ≤ 12) : ∀ (r acc : List q1k) (pre : List Int) (k : Nat), l = pre ++ (r.flatMap q44 ++ post) → acc.length + r.length = n → r.length < k → (∀ x ∈ r, tightB x) →
    q27.l0.f K k ((n : Nat) : Int) ((acc.length : Nat) : Int) Err.nil l ((pre.length : Nat) : Int) acc = some (Err.nil, (((pre ++ r.flatMap q44).length : Nat) : Int), acc ++ r)
  | r, acc, pre, 0, h, hr, hk, hv => by omega
  | [], acc, pre, k + 1, h, hr, hk, hv => by
    rw [q27.l0.f]
    have e : decide (((acc.length : Nat) : Int) < ((n : Nat) : Int)) = false := by simp at hr ⊢; omega
    simp only [e, cond_false, List.append_nil, List.flatMap_nil]
  | x :: r, acc, pre, k + 1, h, hr, hk, hv => by
    rw [q27.l0.f]
    have e : decide (((acc.length : Nat) : Int) < ((n : Nat) : Int)) = true := by simp at hr ⊢; omega
    have u := takeBlock (K := K) hK (b := x) (l := l) (pre := pre) (post := r.flatMap q44 ++ post) (by rw [h]; simp) hl (hv x (by simp))
    have e4 : Nat.ble (acc.length + [(x.1, x.2.1, x.2.2.1, x.2.2.2.1, x.2.2.2.2)].length) 1000000 = true := Nat.ble_eq_true_of_le (by simp at hr ⊢; omega)
    simp only [e, cond_true, u, q0c, e4, q0y (l1 := acc) (x := x) (by simp at hr; omega)]
    refine (z43 (post := post) hK hl hn r (acc ++ [x]) (pre ++ q44 x) k (by rw [h]; simp) (by simp at hr ⊢; omega) (by simp at hk; omega) (fun v hv' => hv v (by simp [hv']))).trans ?_
    simp
theorem takeFunc (hK : 2000 ≤ K) {f : q0t} {l pre post : List Int} (h : l = pre ++ (q4q f ++ post)) (hl : l.length ≤ 1000000) (hf : tightF f) :
    q27.f K Err.nil l ((pre.length : Nat) : Int) = some (f.1, f.2.1, f.2.2.1, f.2.2.2, Err.nil, (((pre ++ q4q f).length : Nat) : Int)) := by
  obtain ⟨h1, h2, h3, h4, h5⟩ := hf
  unfold q27.f
  simp only [q4q] at h ⊢
  rw [j33 hK (s := f.1) (post := f.2.1 :: f.2.2.1 :: ((f.2.2.2.length : Nat) : Int) :: (f.2.2.2.flatMap q44 ++ post)) (by rw [h]; simp) hl h1]
  simp only [q0c]
  rw [q5m hK (v := f.2.1) (post := f.2.2.1 :: ((f.2.2.2.length : Nat) : Int) :: (f.2.2.2.flatMap q44 ++ post)) (by rw [h]; simp) hl h2.1 h2.2 (by omega)]
  simp only [q0c]
  rw [q5m hK (v := f.2.2.1) (post := ((f.2.2.2.length : Nat) : Int) :: (f.2.2.2.flatMap q44 ++ post)) (by rw [h]; simp) hl h3.1 h3.2 (by omega)]
  simp only [q0c]
  rw [q5m hK (v := ((f.2.2.2.length : Nat) : Int)) (post := f.2.2.2.flatMap q44 ++ post) (by rw [h]; simp) hl (by omega) (by omega) (by omega)]
  simp only [q0c]
  have t := z43 (K := K) hK (n := f.2.2.2.length) (l := l) (post := post) hl h4 f.2.2.2 [] (pre ++ q4p f.1 ++ [f.2.1] ++ [f.2.2.1] ++ [((f.2.2.2.length : Nat) : Int)]) K (by rw [h]; simp) (by simp) (by omega) h5
  rw [show q27.l0.f K K ((f.2.2.2.length : Nat) : Int) (0 : Int) Err.nil l _ [] = _ from t]
  simp
theorem z6k (hK : 2000 ≤ K) {n : Nat} {l post : List Int} (hl : l.length ≤ 1000000) (hn : n ≤ 16) : ∀ (r acc : List Int) (pre : List Int) (k : Nat), l = pre ++ (r.flatMap encI ++ post) → acc.length + r.length = n → r.length < k → (∀ x ∈ r, i64 x) →
    q1w.l0.f K k ((n : Nat) : Int) ((acc.length : Nat) : Int) Err.nil l ((pre.length : Nat) : Int) acc = some (Err.nil, (((pre ++ r.flatMap encI).length : Nat) : Int), acc ++ r)
  | r, acc, pre, 0, h, hr, hk, hv => by omega
  | [], acc, pre, k + 1, h, hr, hk, hv => by
    rw [q1w.l0.f]
    have e : decide (((acc.length : Nat) : Int) < ((n : Nat) : Int)) = false := by simp at hr ⊢; omega
    simp only [e, cond_false, List.append_nil, List.flatMap_nil]
  | x :: r, acc, pre, k + 1, h, hr, hk, hv => by
    rw [q1w.l0.f]
    have e : decide (((acc.length : Nat) : Int) < ((n : Nat) : Int)) = true := by simp at hr ⊢; omega
    have u := z68 (K := K) hK (n := x) (l := l) (pre := pre) (post := r.flatMap encI ++ post) (by rw [h]; simp) hl (hv x (by simp))
    have e4 : Nat.ble (acc.length + [x].length) 1000000 = true := Nat.ble_eq_true_of_le (by simp at hr ⊢; omega)
    simp only [e, cond_true, u, q0c, e4, q0y (l1 := acc) (x := x) (by simp at hr; omega)]
    refine (z6k (post := post) hK hl hn r (acc ++ [x]) (pre ++ encI x) k (by rw [h]; simp) (by simp at hr ⊢; omega) (by simp at hk; omega) (fun v hv' => hv v (by simp [hv']))).trans ?_
    simp
theorem z6o (hK : 2000 ≤ K) {n : Nat} {l post : List Int} (hl : l.length ≤ 1000000) (hn : n ≤ 24) : ∀ (r acc : List q0t) (pre : List Int) (k : Nat), l = pre ++ (r.flatMap q4q ++ post) → acc.length + r.length = n → r.length < k → (∀ x ∈ r, tightF x) →
    q1w.l1.f K k ((n : Nat) : Int) ((acc.length : Nat) : Int) Err.nil l ((pre.length : Nat) : Int) acc = some (Err.nil, l, (((pre ++ r.flatMap q4q).length : Nat) : Int), acc ++ r)
  | r, acc, pre, 0, h, hr, hk, hv => by omega
  | [], acc, pre, k + 1, h, hr, hk, hv => by
    rw [q1w.l1.f]
    have e : decide (((acc.length : Nat) : Int) < ((n : Nat) : Int)) = false := by simp at hr ⊢; omega
    simp only [e, cond_false, List.append_nil, List.flatMap_nil]
  | x :: r, acc, pre, k + 1, h, hr, hk, hv => by
    rw [q1w.l1.f]
    have e : decide (((acc.length : Nat) : Int) < ((n : Nat) : Int)) = true := by simp at hr ⊢; omega
    have u := takeFunc (K := K) hK (f := x) (l := l) (pre := pre) (post := r.flatMap q4q ++ post) (by rw [h]; simp) hl (hv x (by simp))
    have e4 : Nat.ble (acc.length + [(x.1, x.2.1, x.2.2.1, x.2.2.2)].length) 1000000 = true := Nat.ble_eq_true_of_le (by simp at hr ⊢; omega)
    simp only [e, cond_true, u, q0c, e4, q0y (l1 := acc) (x := x) (by simp at hr; omega)]
    refine (z6o (post := post) hK hl hn r (acc ++ [x]) (pre ++ q4q x) k (by rw [h]; simp) (by simp at hr ⊢; omega) (by simp at hk; omega) (fun v hv' => hv v (by simp [hv']))).trans ?_
    simp
theorem z67 (hK : 2000 ≤ K) {n : Nat} {l post : List Int} (hl : l.length ≤ 1000000) (hn : n ≤ 24) : ∀ (r acc : List q0h) (pre : List Int) (k : Nat), l = pre ++ (r.flatMap q3i ++ post) → acc.length + r.length = n → r.length < k → (∀ x ∈ r, x.1.size ≤ 12 ∧ 0 ≤ x.2 ∧ x.2 ≤ 4) →
    q1w.l2.f K k ((n : Nat) : Int) ((acc.length : Nat) : Int) Err.nil l ((pre.length : Nat) : Int) acc = some (Err.nil, (((pre ++ r.flatMap q3i).length : Nat) : Int), acc ++ r)
  | r, acc, pre, 0, h, hr, hk, hv => by omega
  | [], acc, pre, k + 1, h, hr, hk, hv => by
    rw [q1w.l2.f]
    have e : decide (((acc.length : Nat) : Int) < ((n : Nat) : Int)) = false := by simp at hr ⊢; omega
    simp only [e, cond_false, List.append_nil, List.flatMap_nil]
  | x :: r, acc, pre, k + 1, h, hr, hk, hv => by
    rw [q1w.l2.f]
    have e : decide (((acc.length : Nat) : Int) < ((n : Nat) : Int)) = true := by simp at hr ⊢; omega
    obtain ⟨q1, q2, q3⟩ := hv x (by simp)
    have u := j33 (K := K) hK (s := x.1) (l := l) (pre := pre) (post := x.2 :: (r.flatMap q3i ++ post)) (by rw [h]; simp [q3i]) hl q1
    have u2 := q5m (K := K) hK (most := 4) (v := x.2) (l := l) (pre := pre ++ q4p x.1) (post := r.flatMap q3i ++ post) (by rw [h]; simp [q3i]) hl q2 q3 (by omega)
    have e4 : Nat.ble (acc.length + [(x.1, x.2)].length) 1000000 = true := Nat.ble_eq_true_of_le (by simp at hr ⊢; omega)
    simp only [e, cond_true, u, u2, q0c, e4, q0y (l1 := acc) (x := x) (by simp at hr; omega)]
    refine (z67 (post := post) hK hl hn r (acc ++ [x]) (pre ++ q4p x.1 ++ [x.2]) k (by rw [h]; simp [q3i]) (by simp at hr ⊢; omega) (by simp at hk; omega) (fun v hv' => hv v (by simp [hv']))).trans ?_
    simp [q3i]
structure tightM (cells : List Int) (fs : List q0t) (is : List q0h) : Prop where
  clen : cells.length ≤ 16
  cells : ∀ c ∈ cells, i64 c
  len : fs.length + is.length ≤ 24
  funcs : ∀ f ∈ fs, tightF f
  imports : ∀ m ∈ is, m.1.size ≤ 12 ∧ 0 ≤ m.2 ∧ m.2 ≤ 4
theorem head_ok : (!(strOf [(65 : Int), (86 : Int), (1 : Int)]).toList == (ByteArray.mk #[(65 : UInt8), (86 : UInt8), (1 : UInt8)]).toList) = false := by
  rw [ByteArray.toList_eq, ByteArray.toList_eq]
  decide
theorem z8c {l : List Int} (hl : l.length ≤ 1000000) : q4h.f K l ((l.length : Nat) : Int) = some Err.nil := by
  unfold q4h.f
  rw [z0s (Nat.le_refl _) hl]
  simp
theorem takeMod (hK : 2000 ≤ K) {cells : List Int} {fs : List q0t} {is : List q0h} {l pre : List Int} (h : l = pre ++ (q5h cells fs is)) (hl : l.length ≤ 1000000) (hm : tightM cells fs is) :
    q1w.f K l ((pre.length : Nat) : Int) = some (cells, fs, is, Err.nil, l, ((l.length : Nat) : Int)) := by
  obtain ⟨h1, h2, h3, h4, h5⟩ := hm
  unfold q1w.f
  simp only [q5h] at h
  rw [show q2a.f K (3 : Int) l ((pre.length : Nat) : Int) = _ from z11 (K := K) (x := [65, 86, 1]) (l := l) (pre := pre) (post := (((cells.length : Nat) : Int) :: (cells.flatMap encI ++ (((fs.length : Nat) : Int) :: (fs.flatMap q4q ++ (((is.length : Nat) : Int) :: is.flatMap q3i)))))) (by rw [h]) hl]
  simp only [q1m.f, q0c, Err.isNil, cond_true, cond_false, head_ok, q03]
  rw [q5m hK (v := ((cells.length : Nat) : Int)) (post := cells.flatMap encI ++ (((fs.length : Nat) : Int) :: (fs.flatMap q4q ++ (((is.length : Nat) : Int) :: is.flatMap q3i)))) (by rw [h]; simp) hl (by omega) (by omega) (by omega)]
  simp only [q0c]
  have t0 := z6k (K := K) hK (n := cells.length) (l := l) (post := ((fs.length : Nat) : Int) :: (fs.flatMap q4q ++ (((is.length : Nat) : Int) :: is.flatMap q3i))) hl h1 cells [] (pre ++ [65, 86, 1] ++ [((cells.length : Nat) : Int)]) K (by rw [h]; simp) (by simp) (by omega) h2
  rw [show q1w.l0.f K K ((cells.length : Nat) : Int) (0 : Int) Err.nil l _ [] = _ from t0]
  simp only [q0c]
  rw [q5m hK (v := ((fs.length : Nat) : Int)) (post := fs.flatMap q4q ++ (((is.length : Nat) : Int) :: is.flatMap q3i)) (by rw [h]; simp) hl (by omega) (by omega) (by omega)]
  simp only [q0c]
  have t1 := z6o (K := K) hK (n := fs.length) (l := l) (post := ((is.length : Nat) : Int) :: is.flatMap q3i) hl (by omega) fs [] (pre ++ [65, 86, 1] ++ [((cells.length : Nat) : Int)] ++ cells.flatMap encI ++ [((fs.length : Nat) : Int)]) K (by rw [h]; simp) (by simp) (by omega) h4
  rw [show q1w.l1.f K K ((fs.length : Nat) : Int) (0 : Int) Err.nil l _ [] = _ from t1]
  simp only [q0c]
  rw [q5m hK (v := ((is.length : Nat) : Int)) (post := is.flatMap q3i) (by rw [h]; simp) hl (by omega) (by omega) (by omega)]
  simp only [q0c]
  have t2 := z67 (K := K) hK (n := is.length) (l := l) (post := []) hl (by omega) is [] (pre ++ [65, 86, 1] ++ [((cells.length : Nat) : Int)] ++ cells.flatMap encI ++ [((fs.length : Nat) : Int)] ++ fs.flatMap q4q ++ [((is.length : Nat) : Int)]) K (by rw [h]; simp) (by simp) (by omega) h5
  rw [show q1w.l2.f K K ((is.length : Nat) : Int) (0 : Int) Err.nil l _ [] = _ from t2]
  have he : pre ++ [65, 86, 1] ++ [((cells.length : Nat) : Int)] ++ cells.flatMap encI ++ [((fs.length : Nat) : Int)] ++ fs.flatMap q4q ++ [((is.length : Nat) : Int)] ++ is.flatMap q3i = l := by rw [h]; simp
  simp only [q0c, cond_true, cond_false, List.nil_append, he, z8c hl]
theorem take_val (hK : 2000 ≤ K) {cells : List Int} {fs : List q0t} {is : List q0h} {l pre : List Int} (h : l = pre ++ (q5h cells fs is)) (hl : l.length ≤ 1000000) (hm : tightM cells fs is) (hwf : WF cells fs is) :
    q8j.f K l ((pre.length : Nat) : Int) = some (cells, fs, is, Err.nil, l, ((l.length : Nat) : Int)) := by
  unfold q8j.f
  rw [takeMod hK h hl hm]
  simp only [q0c, Err.isNil, cond_true, cond_false, z23 hK hwf, Bool.not_true]
def wide (cells : List Int) (fs : List q0t) : Prop := (∀ c ∈ cells, i64 c) ∧ ∀ f ∈ fs, ∀ b ∈ f.2.2.2, ∀ x ∈ b.1, i64 x.2.2.2.2.1
theorem ar_len {fs : List q0t} {is : List q0h} : (arities fs is).length = fs.length + is.length := by simp
theorem WF.low {cells : List Int} {fs : List q0t} {is : List q0h} (h : WF cells fs is) (hw : wide cells fs) : lowM cells fs is := by
  refine ⟨h.ncells, hw.1, h.count, fun f hf => ?_, fun m hm => ?_⟩
  · obtain ⟨i, hi⟩ := List.mem_iff_getElem?.1 hf
    obtain ⟨ok, _⟩ := h.funcs i f hi
    have hr := ok.regs
    refine ⟨ok.name.2.1, ok.arity, ⟨by omega, by omega⟩, ok.blocks.2, fun b hb => ?_⟩
    have okb := ok.each b hb
    exact ⟨okb.len, fun x hx => (okb.insns x hx).low hr.2.1 h.ncells (by rw [ar_len]; exact h.count) h.ar_le (hw.2 f hf b hb x hx), okb.fin.low hr.2.1 ok.blocks.2⟩
  · obtain ⟨i, hi⟩ := List.mem_iff_getElem?.1 hm
    have ok := h.imports i m hi
    exact ⟨ok.name.2.1, ok.arity⟩
theorem WF.tight {cells : List Int} {fs : List q0t} {is : List q0h} (h : WF cells fs is) (hw : wide cells fs) : tightM cells fs is := by
  refine ⟨h.ncells, hw.1, h.count, fun f hf => ?_, fun m hm => ?_⟩
  · obtain ⟨i, hi⟩ := List.mem_iff_getElem?.1 hf
    obtain ⟨ok, _⟩ := h.funcs i f hi
    have hr := ok.regs
    refine ⟨ok.name.2.1, ok.arity, ⟨by omega, by omega⟩, ok.blocks.2, fun b hb => ?_⟩
    have okb := ok.each b hb
    exact ⟨okb.len, fun x hx => (okb.insns x hx).tight hr.2.1 h.ncells (by rw [ar_len]; exact h.count) h.ar_le (hw.2 f hf b hb x hx), okb.fin.tight hr.2.1 ok.blocks.2⟩
  · obtain ⟨i, hi⟩ := List.mem_iff_getElem?.1 hm
    have ok := h.imports i m hi
    exact ⟨ok.name.2.1, ok.arity⟩
end Go.Proofs.YtdjkdmjdcdljmaaGreatDoor.AF
namespace Go.Proofs.YtdjkdmjdcdljmaaGreatDoor.AF
open Go.Proofs.q0a
set_option maxRecDepth 1000000
set_option maxHeartbeats 4000000
theorem runs_n (n : Nat) : q46.f (n + 200) = some true := by kernel_rfl
theorem runs_val {K : Nat} (hK : 2000 ≤ K) : q46.f K = some true := by
  obtain ⟨n, rfl⟩ : ∃ n, K = n + 200 := ⟨K - 200, by omega⟩
  exact runs_n n
end Go.Proofs.YtdjkdmjdcdljmaaGreatDoor.AF
