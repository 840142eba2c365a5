/- The law AvermentFiles, in parts: this text is packed by program (names shortened). No condition. -/
import Derived.Test.YtdjkdmjdcdljmaaGreatDoorPC
set_option linter.unusedVariables false
set_option linter.unusedSimpArgs false
namespace Go.Proofs.YtdjkdmjdcdljmaaGreatDoor.AF
open Go.Proofs.q0a
noncomputable section
set_option maxRecDepth 1000000
set_option maxHeartbeats 4000000
namespace z8g
noncomputable def X (K : Nat) : Fx M 0 := { hmx := mxd, nt := 62, cs := [q4o.e K, z1n.e K, z71.e K, q01.e K, q50.e K], ad := [(83, [(0, 1), (1, 2)])], rf := [(10, ⟨[1, 2, 3, 4], (.cons (.ty yI) (.cons (.ty (.slice yI)) (.cons (.ty (.slice yI)) (.ptr 0 0)))), [hh62, .void 2 yI, .void 3 yI]⟩)], cp := [(6, [.bool], [24])] }
noncomputable def f (K : Nat) (a0 : List Int) (a1 : List q0t) (a2 : List q0h) (a3 : Int) (a4 : List Int) (a5 : List Int) : Option (Err × Option q64 × List Int × Int × Int × List Int × List Int × (List (Int × Int × Int × Nat × Nat)) × List (Option (List Int)) × List (Option (List Int))) := (q4o.f K a0 a1 a2).bind fun t => bif bif true then !t.isNil else t.isNil then none else bif decide ((↑a2.length : Int) > (0 : Int)) then none else q1c (bif decide (a3 < (0 : Int)) then some true else some (decide (a3 ≥ (↑a1.length : Int)))) fun t => bif t then none else bif decide ((0 : Int) ≤ a3) && true then a1[a3.toNat]?.bind fun t => bif (↑a4.length : Int) != t.2.1 then none else (z1n.f K a0 a1 a2).bind fun t => (z71.f K t.2.1).bind fun t_1 => (q01.f K a5).bind fun t_2 => (q50.f K t_1 a3 a4).bind fun t_3 => some (Err.nil, t_1, t_2, (0 : Int), (0 : Int), t.1, [], [(a3, t_3.1, t_3.2.1, (0 : Nat), (0 : Nat))], [] ++ [some t_3.2.2.1], [] ++ [some t_3.2.2.2]) else none
noncomputable def e (K : Nat) : En M := fnE (X K) 27 Tryz.func27 ⟨(.cons (.agg (.cons (.ty (.slice yI)) (.cons (.ty (.slice q30)) (.ty (.slice q2f))))) (.cons (.ty yI) (.cons (.ty (.slice yI)) (.ty (.slice yI))))), [], (.cons (.ptr 0 0) (.ty .err)), hs80⟩ [] (fun x => f K x.1.1.1 x.1.1.2.1 x.1.1.2.2 x.1.2.1 x.1.2.2.1 x.1.2.2.2) (fun x r => (((), r.1), (r.2.1, (), r.2.2.1, (), (), r.2.2.2.1, r.2.2.2.2.1), r.2.2.2.2.2.1, r.2.2.2.2.2.2.1, r.2.2.2.2.2.2.2.1, r.2.2.2.2.2.2.2.2.1, r.2.2.2.2.2.2.2.2.2, ())) fun x => by
  rw [q0b, f]
  try simp only [el]
  kernel_rfl
end z8g
namespace q51
noncomputable def f (K : Nat) (a6 : List (Int × Int × Int × Nat × Nat)) : Option (Nat) := bif decide ((0 : Int) ≤ IntKind.i64.wrap ((↑a6.length : Int) - (1 : Int))) then bif (IntKind.i64.wrap ((↑a6.length : Int) - (1 : Int))).toNat.blt a6.length then some (IntKind.i64.wrap ((↑a6.length : Int) - (1 : Int))).toNat else none else none
noncomputable def e (K : Nat) : En M := fnE (m := 6) { hmx := mxd, nt := 14, cs := [] } 137 Tryz.func137 ⟨(.ptr 0 0), hs80, (.ptrI 3 0), hs80⟩ [] (fun x => f K x.2.2.2.2.1) (fun x r => (r, x.2)) fun x => by
  rw [q0b, f]
  try simp only [el]
  kernel_rfl
end q51
namespace q61
noncomputable def f (K : Nat) (a0 : Nat) (a1 : Int) (a2 : Int) (a3 : Option q64) (a9 : List (Int × Int × Int × Nat × Nat)) (a10 : List (Option (List Int))) (a11 : List (Option (List Int))) : Option ((List (Int × Int × Int × Nat × Nat)) × List (Option (List Int)) × List (Option (List Int))) := a9[a0]?.bind fun t => a9[a0]?.bind fun t_1 => a3.bind fun t_2 => a9[a0]?.bind fun t_3 => bif decide ((0 : Int) ≤ t_3.1) && true then t_2.2.1[Int.toNat t_3.1]?.bind fun t_4 => a9[a0]?.bind fun t_5 => bif decide ((0 : Int) ≤ t_5.2.1) && true then t_4[Int.toNat t_5.2.1]?.bind fun t_6 => a9[a0]?.bind fun t_7 => bif decide ((0 : Int) ≤ t_7.2.2.1) && true then t_6.2.1[Int.toNat t_7.2.2.1]?.bind fun t_8 => q1c (a10[t.2.2.2.1]?.bind fun t => t.bind fun t => some t.length) fun t_9 => bif decide ((0 : Int) ≤ a1) then bif a1.toNat.blt t_9 then a10[t.2.2.2.1]?.bind fun t_10 => t_10.bind fun t_11 => t_11[a1.toNat]?.bind fun t_12 => q1c (a11[t_1.2.2.2.2]?.bind fun t => t.bind fun t => some t.length) fun t_13 => bif decide ((0 : Int) ≤ a1) then bif a1.toNat.blt t_13 then a11[t_1.2.2.2.2]?.bind fun t_14 => t_14.bind fun t_15 => t_15[a1.toNat]?.bind fun t_16 => a9[a0]?.bind fun t_17 => a9[a0]?.bind fun t_18 => some (a9.set a0 (t_18.1, t_18.2.1, IntKind.i64.wrap (t_17.2.2.1 + (1 : Int)), t_18.2.2.2.1, t_18.2.2.2.2), a10.set t.2.2.2.1 (some (t_11.set a1.toNat a2)), a11.set t_1.2.2.2.2 (some (t_15.set a1.toNat t_8))) else none else none else none else none else none else none else none
noncomputable def e (K : Nat) : En M := fnE (m := 6) { hmx := mxd, nt := 54, cs := [] } 194 Tryz.func194 ⟨(.cons (.ptr 0 0) (.cons (.ptrI 3 0) (.cons (.ty yI) (.ty yI)))), hs80, .unit, hs80⟩ [] (fun x => f K x.1.2.1 x.1.2.2.1 x.1.2.2.2 x.2.1.1 x.2.2.2.2.1 x.2.2.2.2.2.1 x.2.2.2.2.2.2.1) (fun x r => ((), x.2.1, x.2.2.1, x.2.2.2.1, r.1, r.2.1, r.2.2, ())) fun x => by
  rw [q0b, f]
  try simp only [el]
  kernel_rfl
end q61
namespace q8w
noncomputable def f (K : Nat) (a0 : Int) (a1 : Option q64) (a3 : Int) (a4 : Int) (a7 : List (Int × Int × Int × Nat × Nat)) (a8 : List (Option (List Int))) (a9 : List (Option (List Int))) : Option (Int × Int × List (Option (List Int)) × List (Option (List Int)) × (List (Int × Int × Int × Nat × Nat))) := bif decide ((↑(0 : Nat) : Int) ≤ IntKind.i64.wrap ((↑a7.length : Int) - (1 : Int))) && decide (IntKind.i64.wrap ((↑a7.length : Int) - (1 : Int)) ≤ (↑a7.length : Int)) then bif (↑((IntKind.i64.wrap ((↑a7.length : Int) - (1 : Int))).toNat - (0 : Nat)) : Int) == (0 : Int) then bif ((IntKind.i64.wrap ((↑a7.length : Int) - (1 : Int))).toNat - (0 : Nat)).ble a7.length then some ((1 : Int), a0, a8, a9, List.take ((IntKind.i64.wrap ((↑a7.length : Int) - (1 : Int))).toNat - (0 : Nat)) a7) else none else bif ((IntKind.i64.wrap ((↑a7.length : Int) - (1 : Int))).toNat - (0 : Nat)).ble a7.length then (q51.f K (List.take ((IntKind.i64.wrap ((↑a7.length : Int) - (1 : Int))).toNat - (0 : Nat)) a7)).bind fun t => a1.bind fun t_1 => (List.take ((IntKind.i64.wrap ((↑a7.length : Int) - (1 : Int))).toNat - (0 : Nat)) a7)[t]?.bind fun t_2 => bif decide ((0 : Int) ≤ t_2.1) && true then t_1.2.1[Int.toNat t_2.1]?.bind fun t_3 => (List.take ((IntKind.i64.wrap ((↑a7.length : Int) - (1 : Int))).toNat - (0 : Nat)) a7)[t]?.bind fun t_4 => bif decide ((0 : Int) ≤ t_4.2.1) && true then t_3[Int.toNat t_4.2.1]?.bind fun t_5 => (List.take ((IntKind.i64.wrap ((↑a7.length : Int) - (1 : Int))).toNat - (0 : Nat)) a7)[t]?.bind fun t_6 => bif decide ((0 : Int) ≤ t_6.2.2.1) && true then t_5.1[Int.toNat t_6.2.2.1]?.bind fun t_7 => (q61.f K t t_7.2.1 a0 a1 (List.take ((IntKind.i64.wrap ((↑a7.length : Int) - (1 : Int))).toNat - (0 : Nat)) a7) a8 a9).bind fun t => some (a3, a4, t.2.1, t.2.2, t.1) else none else none else none else none else none
noncomputable def e (K : Nat) : En M := fnE (m := 6) { hmx := mxd, nt := 65, cs := [q51.e K, q61.e K] } 191 Tryz.func191 ⟨sh1b, hs80, .unit, hs81⟩ [] (fun x => f K x.1.2 x.2.1.1 x.2.1.2.2.2.2.2.1 x.2.1.2.2.2.2.2.2 x.2.2.2.2.1 x.2.2.2.2.2.1 x.2.2.2.2.2.2.1) (fun x r => ((), (x.2.1.1, (), x.2.1.2.2.1, (), (), r.1, r.2.1), x.2.2.1, x.2.2.2.1, (), r.2.2.1, r.2.2.2.1, r.2.2.2.2, ())) fun x => by
  rw [q0b, f]
  try simp only [el]
  kernel_rfl
end q8w
namespace q9m
noncomputable def X (K : Nat) : Fx M 6 := { hmx := mxd, nt := 47, cs := [q8w.e K], cp := [(4, [.bool], [23])] }
noncomputable def f (K : Nat) (a0 : Nat) (a1 : Int) (a2 : Int) (a3 : Int) (a4 : Int) (a5 : Option q64) (a7 : Int) (a8 : Int) (a11 : List (Int × Int × Int × Nat × Nat)) (a12 : List (Option (List Int))) (a13 : List (Option (List Int))) : Option (Int × Int × List (Option (List Int)) × List (Option (List Int)) × (List (Int × Int × Int × Nat × Nat))) := bif a1 == (3 : Int) then a11[a0]?.bind fun t => q1c (a12[t.2.2.2.1]?.bind fun t => t.bind fun t => some t.length) fun t_1 => bif decide ((0 : Int) ≤ a2) then bif a2.toNat.blt t_1 then a12[t.2.2.2.1]?.bind fun t => t.bind fun t => t[a2.toNat]?.bind fun t => q8w.f K t a5 a7 a8 a11 a12 a13 else none else none else q1c (bif a1 == (2 : Int) then a11[a0]?.bind fun t => q1c (a12[t.2.2.2.1]?.bind fun t => t.bind fun t => some t.length) fun t_1 => bif decide ((0 : Int) ≤ a2) then bif a2.toNat.blt t_1 then a12[t.2.2.2.1]?.bind fun t => t.bind fun t => t[a2.toNat]?.bind fun t => some (t == (0 : Int)) else none else none else some false) fun t => bif t then a11[a0]?.bind fun t => (a11.set a0 (t.1, a4, t.2.2.1, t.2.2.2.1, t.2.2.2.2))[a0]?.bind fun t_1 => some (a7, a8, a12, a13, (a11.set a0 (t.1, a4, t.2.2.1, t.2.2.2.1, t.2.2.2.2)).set a0 (t_1.1, t_1.2.1, (0 : Int), t_1.2.2.2.1, t_1.2.2.2.2)) else a11[a0]?.bind fun t => (a11.set a0 (t.1, a3, t.2.2.1, t.2.2.2.1, t.2.2.2.2))[a0]?.bind fun t_1 => some (a7, a8, a12, a13, (a11.set a0 (t.1, a3, t.2.2.1, t.2.2.2.1, t.2.2.2.2)).set a0 (t_1.1, t_1.2.1, (0 : Int), t_1.2.2.2.1, t_1.2.2.2.2))
noncomputable def e (K : Nat) : En M := fnE (X K) 138 Tryz.func138 ⟨(.cons (.ptr 0 0) (.cons (.ptrI 3 0) (.agg (.cons (.ty yI) (.cons (.ty yI) (.cons (.ty yI) (.ty yI))))))), hs80, .unit, hs81⟩ [] (fun x => f K x.1.2.1 x.1.2.2.1 x.1.2.2.2.1 x.1.2.2.2.2.1 x.1.2.2.2.2.2 x.2.1.1 x.2.1.2.2.2.2.2.1 x.2.1.2.2.2.2.2.2 x.2.2.2.2.1 x.2.2.2.2.2.1 x.2.2.2.2.2.2.1) (fun x r => ((), (x.2.1.1, (), x.2.1.2.2.1, (), (), r.1, r.2.1), x.2.2.1, x.2.2.2.1, (), r.2.2.1, r.2.2.2.1, r.2.2.2.2, ())) fun x => by
  rw [q0b, f]
  try simp only [el]
  kernel_rfl
end q9m
namespace q87
noncomputable def X (K : Nat) : Fx M 6 := { hmx := mxd, nt := 51, cs := [q50.e K], ad := [(83, [(0, 4), (1, 5)])] }
noncomputable def l0.f (K : Nat) : Nat → Nat → List Int → Int → Int → List (Int × Int × Int × Nat × Nat) → List (Option (List Int)) → List Int → Option (List Int)
  | 0, _, _, _, _, _, _, _ => none
  | k + 1, a0, a1, a2, a3, a10, a11, a19 => bif decide (a3 < a2) then bif decide ((0 : Int) ≤ a3) && true then a1[a3.toNat]?.bind fun t => a10[a0]?.bind fun t_1 => q1c (a11[t_1.2.2.2.1]?.bind fun t => t.bind fun t => some t.length) fun t_2 => bif decide ((0 : Int) ≤ t) then bif (Int.toNat t).blt t_2 then a11[t_1.2.2.2.1]?.bind fun t_3 => t_3.bind fun t_4 => t_4[Int.toNat t]?.bind fun t => bif (a19.length + [t].length).ble (1000000 : Nat) then l0.f K k a0 a1 a2 (IntKind.i64.wrap (a3 + (1 : Int))) a10 a11 (a19 ++ [t]) else none else none else none else none else some a19
noncomputable def l0.b (K : Nat) : Lp M 6 := q2d (X K) 5 51 0 (q0o Tryz.f192 0) ⟨[0, 1, 5, 7, 17, 18, 19], (.cons (.ptr 0 0) (.cons (.ptrI 3 0) (.cons (.ptr 6 0) (.cons (.own 7) (.cons (.ty (.slice yI)) (.cons (.ty yI) (.ty yI))))))), hs83⟩ ⟨[0, 5, 7], (.cons (.ptr 0 0) (.cons (.ptr 6 0) (.own 7))), hs83⟩ K [] (fun k x => l0.f K k x.1.2.1 x.1.2.2.2.2.1 x.1.2.2.2.2.2.1 x.1.2.2.2.2.2.2 x.2.2.2.2.1 x.2.2.2.2.2.1 x.2.2.2.2.2.2.2.2.1) (fun x r => (((), (), ()), x.2.1, x.2.2.1, x.2.2.2.1, x.2.2.2.2.1, x.2.2.2.2.2.1, x.2.2.2.2.2.2.1, x.2.2.2.2.2.2.2.1, r, ())) fun k x => by
  rw [q0b, l0.f]
  try simp only [el]
  kernel_rfl
noncomputable def f (K : Nat) (a0 : Nat) (a4 : Int) (a6 : List Int) (a7 : Option q64) (a13 : List (Int × Int × Int × Nat × Nat)) (a14 : List (Option (List Int))) (a15 : List (Option (List Int))) : Option (Bool × List (Option (List Int)) × List (Option (List Int)) × (List (Int × Int × Int × Nat × Nat))) := bif (↑a13.length : Int) == (64 : Int) then some (false, a14, a15, a13) else (l0.f K K a0 a6 (↑a6.length : Int) (0 : Int) a13 a14 []).bind fun t => (q50.f K a7 a4 t).bind fun t => bif (a13.length + [(a4, t.1, t.2.1, a14.length, a15.length)].length).ble (1000000 : Nat) then some (true, a14 ++ [some t.2.2.1], a15 ++ [some t.2.2.2], a13 ++ [(a4, t.1, t.2.1, a14.length, a15.length)]) else none
noncomputable def e (K : Nat) : En M := fnE (X K) 192 Tryz.func192 ⟨sh82, hs80, (.ty .bool), hs81⟩ [l0.b K] (fun x => f K x.1.2.1 x.1.2.2.2.2.2.1 x.1.2.2.2.2.2.2.2 x.2.1.1 x.2.2.2.2.1 x.2.2.2.2.2.1 x.2.2.2.2.2.2.1) (fun x r => (r.1, x.2.1, x.2.2.1, x.2.2.2.1, (), r.2.1, r.2.2.1, r.2.2.2, ())) fun x => by
  rw [q0b, f]
  try simp only [el]
  kernel_rfl
end q87
namespace z73
noncomputable def f (K : Nat) (a0 : Bool) : Option (Int) := bif a0 then some (1 : Int) else some (0 : Int)
noncomputable def e (K : Nat) : En M := fnE (m := 0) { hmx := mxd, nt := 4, cs := [] } 225 Tryz.func225 ⟨(.ty .bool), [], (.ty yI), []⟩ [] (fun (x : (Bool × Unit)) => f K x.1) (fun x r => (r, ())) fun (x : (Bool × Unit)) => by
  refine Eq.trans ?_ q0b.symm
  rw [f]
  try simp only [el]
  kernel_rfl
end z73
namespace z7v
noncomputable def f (K : Nat) (a0 : Int) (a1 : Int) (a2 : Int) : Option (Int × Bool) := bif a0 == (4 : Int) then some (IntKind.i64.wrap (a1 + a2), true) else bif a0 == (5 : Int) then some (IntKind.i64.wrap (a1 - a2), true) else bif a0 == (6 : Int) then some (IntKind.i64.wrap (a1 * a2), true) else bif a0 == (9 : Int) then some (IntKind.i64.wrap (↑(BitVec.ofInt (64 : Nat) a1 &&& BitVec.ofInt (64 : Nat) a2).toNat : Int), true) else bif a0 == (10 : Int) then some (IntKind.i64.wrap (↑(BitVec.ofInt (64 : Nat) a1 ^^^ BitVec.ofInt (64 : Nat) a2).toNat : Int), true) else bif a0 == (11 : Int) then (z73.f K (decide (a1 < a2))).bind fun t => some (t, true) else bif a0 == (12 : Int) then (z73.f K (a1 == a2)).bind fun t => some (t, true) else bif a0 == (7 : Int) then bif a2 == (0 : Int) then some ((0 : Int), false) else bif a0 == (7 : Int) then bif a2 == (0 : Int) then none else some (IntKind.i64.wrap (a1.tdiv a2), true) else bif a2 == (0 : Int) then none else some (a1.tmod a2, true) else bif a0 == (8 : Int) then bif a2 == (0 : Int) then some ((0 : Int), false) else bif a0 == (7 : Int) then bif a2 == (0 : Int) then none else some (IntKind.i64.wrap (a1.tdiv a2), true) else bif a2 == (0 : Int) then none else some (a1.tmod a2, true) else some ((0 : Int), false)
noncomputable def e (K : Nat) : En M := fnE (m := 0) { hmx := mxd, nt := 61, cs := [z73.e K] } 213 Tryz.func213 ⟨(.cons (.ty yI) (.cons (.ty yI) (.ty yI))), [], sh79, []⟩ [] (fun x => f K x.1.1 x.1.2.1 x.1.2.2) (fun x r => ((r.1, r.2), ())) fun x => by
  rw [q0b, f]
  try simp only [el]
  kernel_rfl
end z7v
namespace q8n
noncomputable def f (K : Nat) (a0 : Nat) (a1 : Int) (a3 : Int) (a4 : Int) (a5 : Int) (a8 : List Int) (a11 : List Int) (a13 : List (Int × Int × Int × Nat × Nat)) (a14 : List (Option (List Int))) : Option (Int × Bool × List Int) := bif a1 == (1 : Int) then some (a5, true, a8) else bif a1 == (2 : Int) then a13[a0]?.bind fun t => q1c (a14[t.2.2.2.1]?.bind fun t => t.bind fun t => some t.length) fun t_1 => bif decide ((0 : Int) ≤ a3) then bif a3.toNat.blt t_1 then a14[t.2.2.2.1]?.bind fun t => t.bind fun t => t[a3.toNat]?.bind fun t => some (t, true, a8) else none else none else bif a1 == (3 : Int) then a13[a0]?.bind fun t => q1c (a14[t.2.2.2.1]?.bind fun t => t.bind fun t => some t.length) fun t_1 => bif decide ((0 : Int) ≤ a3) then bif a3.toNat.blt t_1 then a14[t.2.2.2.1]?.bind fun t => t.bind fun t => t[a3.toNat]?.bind fun t => some (IntKind.i64.wrap ((0 : Int) - t), true, a8) else none else none else bif a1 == (13 : Int) then bif decide ((0 : Int) ≤ a4) then bif a4.toNat.blt a11.length then a11[a4.toNat]?.bind fun t => some (t, true, a8) else none else none else bif a1 == (15 : Int) then bif (↑a8.length : Int) == (0 : Int) then some ((0 : Int), false, a8) else a8[(0 : Nat)]?.bind fun t => bif decide ((1 : Int) ≤ (↑a8.length : Int)) && decide ((↑a8.length : Int) ≤ (↑a8.length : Int)) && true then some (t, true, List.drop (1 : Nat) (List.take (↑a8.length : Int).toNat a8)) else none else a13[a0]?.bind fun t => q1c (a14[t.2.2.2.1]?.bind fun t => t.bind fun t => some t.length) fun t_1 => bif decide ((0 : Int) ≤ a3) then bif a3.toNat.blt t_1 then a14[t.2.2.2.1]?.bind fun t => t.bind fun t => t[a3.toNat]?.bind fun t => a13[a0]?.bind fun t_2 => q1c (a14[t_2.2.2.2.1]?.bind fun t => t.bind fun t => some t.length) fun t_3 => bif decide ((0 : Int) ≤ a4) then bif a4.toNat.blt t_3 then a14[t_2.2.2.2.1]?.bind fun t_4 => t_4.bind fun t_5 => t_5[a4.toNat]?.bind fun t_6 => (z7v.f K a1 t t_6).bind fun t => some (t.1, t.2, a8) else none else none else none else none
noncomputable def e (K : Nat) : En M := fnE (m := 6) { hmx := mxd, nt := 90, cs := [z7v.e K] } 193 Tryz.func193 ⟨sh82, hs80, sh79, hs80⟩ [] (fun x => f K x.1.2.1 x.1.2.2.1 x.1.2.2.2.2.1 x.1.2.2.2.2.2.1 x.1.2.2.2.2.2.2.1 x.2.1.2.2.1 x.2.2.1 x.2.2.2.2.1 x.2.2.2.2.2.1) (fun x r => ((r.1, r.2.1), (x.2.1.1, (), r.2.2, x.2.1.2.2.2), x.2.2)) fun x => by
  rw [q0b, f]
  try simp only [el]
  kernel_rfl
end q8n
namespace q8x
noncomputable def f (K : Nat) (a0 : Nat) (a1 : Int) (a2 : Int) (a3 : Int) (a4 : Int) (a5 : Int) (a6 : List Int) (a7 : Option q64) (a8 : List Int) (a11 : List Int) (a12 : List Int) (a13 : List (Int × Int × Int × Nat × Nat)) (a14 : List (Option (List Int))) (a15 : List (Option (List Int))) : Option (Bool × List Int × List Int × List (Option (List Int)) × List (Option (List Int)) × List Int × (List (Int × Int × Int × Nat × Nat))) := bif a1 == (17 : Int) then (q87.f K a0 a4 a6 a7 a13 a14 a15).bind fun t => some (t.1, a8, a11, t.2.1, t.2.2.1, a12, t.2.2.2) else bif a1 == (14 : Int) then a13[a0]?.bind fun t => q1c (a14[t.2.2.2.1]?.bind fun t => t.bind fun t => some t.length) fun t_1 => bif decide ((0 : Int) ≤ a3) then bif a3.toNat.blt t_1 then a14[t.2.2.2.1]?.bind fun t => t.bind fun t => t[a3.toNat]?.bind fun t => bif decide ((0 : Int) ≤ a4) then bif a4.toNat.blt a11.length then a11[a4.toNat]?.bind fun t_2 => a13[a0]?.bind fun t_3 => a13[a0]?.bind fun t_4 => some (true, a8, a11.set a4.toNat t, a14, a15, a12, a13.set a0 (t_4.1, t_4.2.1, IntKind.i64.wrap (t_3.2.2.1 + (1 : Int)), t_4.2.2.2.1, t_4.2.2.2.2)) else none else none else none else none else bif a1 == (16 : Int) then a13[a0]?.bind fun t => q1c (a14[t.2.2.2.1]?.bind fun t => t.bind fun t => some t.length) fun t_1 => bif decide ((0 : Int) ≤ a3) then bif a3.toNat.blt t_1 then a14[t.2.2.2.1]?.bind fun t => t.bind fun t => t[a3.toNat]?.bind fun t => bif (a12.length + [t].length).ble (1000000 : Nat) then a13[a0]?.bind fun t_2 => a13[a0]?.bind fun t_3 => some (true, a8, a11, a14, a15, a12 ++ [t], a13.set a0 (t_3.1, t_3.2.1, IntKind.i64.wrap (t_2.2.2.1 + (1 : Int)), t_3.2.2.2.1, t_3.2.2.2.2)) else none else none else none else (q8n.f K a0 a1 a3 a4 a5 a8 a11 a13 a14).bind fun t => bif t.2.1 then (q61.f K a0 a2 t.1 a7 a13 a14 a15).bind fun t_1 => some (t.2.1, t.2.2, a11, t_1.2.1, t_1.2.2, a12, t_1.1) else some (t.2.1, t.2.2, a11, a14, a15, a12, a13)
noncomputable def e (K : Nat) : En M := fnE (m := 6) { hmx := mxd, nt := 75, cs := [q87.e K, q8n.e K, q61.e K] } 139 Tryz.func139 ⟨sh82, hs80, (.ty .bool), hs84⟩ [] (fun x => f K x.1.2.1 x.1.2.2.1 x.1.2.2.2.1 x.1.2.2.2.2.1 x.1.2.2.2.2.2.1 x.1.2.2.2.2.2.2.1 x.1.2.2.2.2.2.2.2 x.2.1.1 x.2.1.2.2.1 x.2.2.1 x.2.2.2.1 x.2.2.2.2.1 x.2.2.2.2.2.1 x.2.2.2.2.2.2.1) (fun x r => (r.1, (x.2.1.1, (), r.2.1, x.2.1.2.2.2), r.2.2.1, (), (), r.2.2.2.1, r.2.2.2.2.1, r.2.2.2.2.2.1, r.2.2.2.2.2.2, ())) fun x => by
  rw [q0b, f]
  try simp only [el]
  kernel_rfl
end q8x
namespace q84
noncomputable def X (K : Nat) : Fx M 6 := { hmx := mxd, nt := 63, cs := [q51.e K, q9m.e K, q8x.e K], cp := [(1, [.bool], [13])] }
noncomputable def f (K : Nat) (a0 : Option q64) (a1 : List Int) (a2 : Int) (a3 : Int) (a4 : List Int) (a5 : List Int) (a6 : List (Int × Int × Int × Nat × Nat)) (a7 : List (Option (List Int))) (a8 : List (Option (List Int))) : Option (Bool × List Int × Int × Int × List Int × List (Option (List Int)) × List (Option (List Int)) × List Int × (List (Int × Int × Int × Nat × Nat))) := q1c (some (a2 != (0 : Int))) fun t => bif t then some (false, a1, a2, a3, a4, a7, a8, a5, a6) else (q51.f K a6).bind fun t => a0.bind fun t_1 => a6[t]?.bind fun t_2 => bif decide ((0 : Int) ≤ t_2.1) && true then t_1.2.1[Int.toNat t_2.1]?.bind fun t_3 => a6[t]?.bind fun t_4 => bif decide ((0 : Int) ≤ t_4.2.1) && true then t_3[Int.toNat t_4.2.1]?.bind fun t_5 => a6[t]?.bind fun t_6 => bif t_6.2.2.1 == (↑(List.length t_5.1) : Int) then (q9m.f K t t_5.2.2.1 t_5.2.2.2.1 t_5.2.2.2.2.1 t_5.2.2.2.2.2 a0 a2 a3 a6 a7 a8).bind fun t => some (true, a1, t.1, t.2.1, a4, t.2.2.1, t.2.2.2.1, a5, t.2.2.2.2) else a6[t]?.bind fun t_7 => bif decide ((0 : Int) ≤ t_7.2.2.1) && true then t_5.1[Int.toNat t_7.2.2.1]?.bind fun t_8 => (q8x.f K t t_8.1 t_8.2.1 t_8.2.2.1 t_8.2.2.2.1 t_8.2.2.2.2.1 t_8.2.2.2.2.2 a0 a1 a4 a5 a6 a7 a8).bind fun t => bif !t.1 then some (false, t.2.1, (2 : Int), a3, t.2.2.1, t.2.2.2.1, t.2.2.2.2.1, t.2.2.2.2.2.1, t.2.2.2.2.2.2) else some (true, t.2.1, a2, a3, t.2.2.1, t.2.2.2.1, t.2.2.2.2.1, t.2.2.2.2.2.1, t.2.2.2.2.2.2) else none else none else none
noncomputable def e (K : Nat) : En M := fnE (X K) 84 Tryz.func84 ⟨(.ptr 0 0), hs80, (.ty .bool), hs84⟩ [] (fun x => f K x.2.1.1 x.2.1.2.2.1 x.2.1.2.2.2.2.2.1 x.2.1.2.2.2.2.2.2 x.2.2.1 x.2.2.2.1 x.2.2.2.2.1 x.2.2.2.2.2.1 x.2.2.2.2.2.2.1) (fun x r => (r.1, (x.2.1.1, (), r.2.1, (), (), r.2.2.1, r.2.2.2.1), r.2.2.2.2.1, (), (), r.2.2.2.2.2.1, r.2.2.2.2.2.2.1, r.2.2.2.2.2.2.2.1, r.2.2.2.2.2.2.2.2, ())) fun x => by
  rw [q0b, f]
  try simp only [el]
  kernel_rfl
end q84
namespace q9i
noncomputable def X (K : Nat) : Fx M 6 := { hmx := mxd, nt := 16, cs := [q84.e K] }
noncomputable def l0.f (K : Nat) : Nat → Int → Int → Option q64 → List Int → Int → Int → List Int → List (Option (List Int)) → List (Option (List Int)) → List Int → List (Int × Int × Int × Nat × Nat) → Option (Int × List Int × Int × Int × List Int × List (Option (List Int)) × List (Option (List Int)) × List Int × (List (Int × Int × Int × Nat × Nat)))
  | 0, _, _, _, _, _, _, _, _, _, _, _ => none
  | k + 1, a0, a1, a2, a3, a4, a5, a6, a7, a8, a9, a10 => bif decide (a1 < a0) then (q84.f K a2 a3 a4 a5 a6 a9 a10 a7 a8).bind fun t => bif t.1 then l0.f K k a0 (IntKind.i64.wrap (a1 + (1 : Int))) a2 t.2.1 t.2.2.1 t.2.2.2.1 t.2.2.2.2.1 t.2.2.2.2.2.1 t.2.2.2.2.2.2.1 t.2.2.2.2.2.2.2.1 t.2.2.2.2.2.2.2.2 else some (a1, t.2.1, t.2.2.1, t.2.2.2.1, t.2.2.2.2.1, t.2.2.2.2.2.1, t.2.2.2.2.2.2.1, t.2.2.2.2.2.2.2.1, t.2.2.2.2.2.2.2.2) else some (a1, a3, a4, a5, a6, a7, a8, a9, a10)
noncomputable def l0.b (K : Nat) : Lp M 6 := q2d (X K) 2 16 0 (q0o Tryz.f28 0) ⟨[0, 1, 5], sh17, hs84⟩ ⟨[5], (.ty yI), hs84⟩ K [] (fun k x => l0.f K k x.1.2.1 x.1.2.2 x.2.1.1 x.2.1.2.2.1 x.2.1.2.2.2.2.2.1 x.2.1.2.2.2.2.2.2 x.2.2.1 x.2.2.2.2.2.1 x.2.2.2.2.2.2.1 x.2.2.2.2.2.2.2.1 x.2.2.2.2.2.2.2.2.1) (fun x r => (r.1, (x.2.1.1, (), r.2.1, (), (), r.2.2.1, r.2.2.2.1), r.2.2.2.2.1, (), (), r.2.2.2.2.2.1, r.2.2.2.2.2.2.1, r.2.2.2.2.2.2.2.1, r.2.2.2.2.2.2.2.2, ())) fun k x => by
  rw [q0b, l0.f]
  try simp only [el]
  kernel_rfl
noncomputable def f (K : Nat) (a0 : Int) (a1 : Option q64) (a2 : List Int) (a3 : Int) (a4 : Int) (a5 : List Int) (a6 : List Int) (a7 : List (Int × Int × Int × Nat × Nat)) (a8 : List (Option (List Int))) (a9 : List (Option (List Int))) : Option (Int × List Int × Int × Int × List Int × List (Option (List Int)) × List (Option (List Int)) × List Int × (List (Int × Int × Int × Nat × Nat))) := l0.f K K a0 (0 : Int) a1 a2 a3 a4 a5 a8 a9 a6 a7
noncomputable def e (K : Nat) : En M := fnE (X K) 28 Tryz.func28 ⟨sh1b, hs80, (.ty yI), hs84⟩ [l0.b K] (fun x => f K x.1.2 x.2.1.1 x.2.1.2.2.1 x.2.1.2.2.2.2.2.1 x.2.1.2.2.2.2.2.2 x.2.2.1 x.2.2.2.1 x.2.2.2.2.1 x.2.2.2.2.2.1 x.2.2.2.2.2.2.1) (fun x r => (r.1, (x.2.1.1, (), r.2.1, (), (), r.2.2.1, r.2.2.2.1), r.2.2.2.2.1, (), (), r.2.2.2.2.2.1, r.2.2.2.2.2.2.1, r.2.2.2.2.2.2.2.1, r.2.2.2.2.2.2.2.2, ())) fun x => by
  rw [q0b, f]
  try simp only [el]
  kernel_rfl
end q9i
namespace q72
noncomputable def X (K : Nat) : Fx M 6 := { hmx := mxd, nt := 17, cs := [], cp := [(1, [.bool], [12])] }
noncomputable def f (K : Nat) (a2 : Int) (a3 : Int) : Option (Int × Bool) := q1c (some (a2 != (1 : Int))) fun t => bif t then some ((0 : Int), false) else some (a3, true)
noncomputable def e (K : Nat) : En M := fnE (X K) 29 Tryz.func29 ⟨(.ptr 0 0), hs80, sh79, hs80⟩ [] (fun x => f K x.2.1.2.2.2.2.2.1 x.2.1.2.2.2.2.2.2) (fun x r => ((r.1, r.2), x.2)) fun x => by
  rw [q0b, f]
  try simp only [el]
  kernel_rfl
end q72
namespace q46
noncomputable def X (K : Nat) : Fx M 0 := { hmx := mxd, nt := 51, cs := [q7t.e K, q17.e K, q3n.e K, z5h.e K, z8g.e K, q9i.e K, q72.e K], cp := [(4, [.bool], [38]), (8, [.bool], [0])] }
noncomputable def f (K : Nat) : Option (Bool) := (q7t.f K).bind fun t => (q17.f K t.1 t.2.1 t.2.2).bind fun t => (q3n.f K t.1 t.2.1 t.2.2).bind fun t => (z5h.f K t.1).bind fun t_1 => (z8g.f K t_1.1 t_1.2.1 t_1.2.2.1 (0 : Int) [] []).bind fun t_2 => q1c (bif bif true then !t.2.isNil else t.2.isNil then some true else bif bif true then !t_1.2.2.2.isNil else t_1.2.2.2.isNil then some true else some (bif true then !t_2.1.isNil else t_2.1.isNil)) fun t => bif t then some false else (q9i.f K (5 : Int) t_2.2.1 t_2.2.2.1 t_2.2.2.2.1 t_2.2.2.2.2.1 t_2.2.2.2.2.2.1 t_2.2.2.2.2.2.2.1 t_2.2.2.2.2.2.2.2.1 t_2.2.2.2.2.2.2.2.2.1 t_2.2.2.2.2.2.2.2.2.2).bind fun t => (q72.f K t.2.2.1 t.2.2.2.1).bind fun t => q1c (bif t.1 == (5 : Int) then some t.2 else some false) fun t => some t
noncomputable def e (K : Nat) : En M := fnE (X K) 7 Tryz.func7 ⟨.unit, [], (.ty .bool), []⟩ [] (fun x => f K) (fun x r => (r, ())) fun x => by
  rw [q0b, f]
  try simp only [el]
  kernel_rfl
end q46
namespace q8m
noncomputable def f (K : Nat) : Option (Unit) := some ()
noncomputable def e (K : Nat) : En M := fnE (m := 0) { hmx := mxd, nt := 8, cs := [] } 169 Tryz.func169 ⟨sh44, [], sh44, []⟩ [] (fun (x : ((Bool × Int) × Unit)) => f K) (fun x r => x) fun (x : ((Bool × Int) × Unit)) => by
  refine Eq.trans ?_ q0b.symm
  rw [f]
  try simp only [el]
  kernel_rfl
end q8m
namespace q8o
noncomputable def f (K : Nat) : Option (Unit) := some ()
noncomputable def e (K : Nat) : En M := fnE (m := 0) { hmx := mxd, nt := 8, cs := [] } 170 Tryz.func170 ⟨sh35, [], sh35, []⟩ [] (fun x => f K) (fun x r => x) fun x => by
  rw [q0b, f]
  try simp only [el]
  kernel_rfl
end q8o
namespace q3u
noncomputable def f (K : Nat) : Option (Unit) := (q8m.f K).bind fun t => q8o.f K
noncomputable def e (K : Nat) : En M := fnE (m := 0) { hmx := mxd, nt := 14, cs := [q8m.e K, q8o.e K] } 113 Tryz.func113 ⟨sh36, [], sh36, []⟩ [] (fun (x : ((Int × (Bool × (Int × (Int × (Int × Int))))) × Unit)) => f K) (fun x r => x) fun (x : ((Int × (Bool × (Int × (Int × (Int × Int))))) × Unit)) => by
  refine Eq.trans ?_ q0b.symm
  rw [f]
  try simp only [el]
  kernel_rfl
end q3u
namespace q2i
noncomputable def X (K : Nat) : Fx M 0 := { hmx := mxd, nt := 20, cs := [q3u.e K] }
noncomputable def l0.f (K : Nat) : Nat → List q0d → Int → List q0d → Option (List q0d)
  | 0, _, _, _ => none
  | k + 1, a0, a1, a2 => bif decide (a1 < (↑a0.length : Int)) then bif decide ((0 : Int) ≤ a1) && true then a0[a1.toNat]?.bind fun t => (q3u.f K).bind fun t_1 => bif (a2.length + [(t.1, (t.2.1.1, t.2.1.2), (t.2.2.1.1, t.2.2.1.2), t.2.2.2)].length).ble (1000000 : Nat) then l0.f K k a0 (IntKind.i64.wrap (a1 + (1 : Int))) (a2 ++ [(t.1, (t.2.1.1, t.2.1.2), (t.2.2.1.1, t.2.2.1.2), t.2.2.2)]) else none else none else some a2
noncomputable def l0.b (K : Nat) : Lp M 0 := q2d (X K) 3 20 0 (q0o Tryz.f59 0) ⟨[0, 3, 4], (.cons (.ty (.slice q02)) (.cons (.own 0) (.ty yI))), [.list 74 q02 []]⟩ ⟨[3], (.own 0), [.list 74 q02 []]⟩ K [] (fun k x => l0.f K k x.1.1 x.1.2.2 x.2.1) (fun x r => ((), r, ())) fun k x => by
  rw [q0b, l0.f]
  try simp only [el]
  kernel_rfl
noncomputable def f (K : Nat) (a0 : List q0d) : Option (List q0d) := l0.f K K a0 (0 : Int) []
noncomputable def e (K : Nat) : En M := fnE (X K) 59 Tryz.func59 ⟨(.ty (.slice q02)), [], (.ty (.slice q02)), []⟩ [l0.b K] (fun x => f K x.1) (fun x r => (r, ())) fun x => by
  rw [q0b, f]
  try simp only [el]
  kernel_rfl
end q2i
namespace q4w
noncomputable def f (K : Nat) (a1 : List q0d) : Option (List q0d) := (q2i.f K a1).bind fun t => (q3u.f K).bind fun t_1 => some t
noncomputable def e (K : Nat) : En M := fnE (m := 0) { hmx := mxd, nt := 14, cs := [q2i.e K, q3u.e K] } 60 Tryz.func60 ⟨sh21, [], sh21, []⟩ [] (fun (x : ((Bool × ((List q0d) × (Bool × (Int × (Bool × (Int × (Int × (Int × Int)))))))) × Unit)) => f K x.1.2.1) (fun x r => ((x.1.1, r, x.1.2.2), ())) fun (x : ((Bool × ((List q0d) × (Bool × (Int × (Bool × (Int × (Int × (Int × Int)))))))) × Unit)) => by
  refine Eq.trans ?_ q0b.symm
  rw [f]
  try simp only [el]
  kernel_rfl
end q4w
namespace q2r
noncomputable def X (K : Nat) : Fx M 0 := { hmx := mxd, nt := 47, cs := [q3u.e K] }
noncomputable def l1.f (K : Nat) : Nat → Int → List (List Int) → List (List Int) → Option (List (List Int))
  | 0, _, _, _ => none
  | k + 1, a0, a3, a9 => bif decide (a0 < (↑a3.length : Int)) then bif decide ((0 : Int) ≤ a0) && true then a3[a0.toNat]?.bind fun t => bif ((0 : Nat) + List.length t).ble (1000000 : Nat) then bif (a9.length + [[] ++ t].length).ble (1000000 : Nat) then l1.f K k (IntKind.i64.wrap (a0 + (1 : Int))) a3 (a9 ++ [[] ++ t]) else none else none else none else some a9
noncomputable def l1.b (K : Nat) : Lp M 0 := q2d (X K) 7 47 2 (q0o Tryz.f61 1) ⟨[1, 2, 3, 5], shf, hs85⟩ ⟨[2, 3], sh11, hs86⟩ K [] (fun k (x : ((Unit × (Unit × (Unit × Int))) × ((Bool × ((List q0d) × (List (List Int)))) × ((Bool × (Unit × Unit)) × ((Bool × (Unit × Unit)) × ((List q0d) × ((List (List Int)) × ((List q0d) × ((List (List Int)) × Unit))))))))) => l1.f K k x.1.2.2.2 x.2.1.2.2 x.2.2.2.2.2.2.2.1) (fun x r => (((), ()), x.2.2.1, x.2.2.2.1, x.2.2.2.2.1, x.2.2.2.2.2.1, x.2.2.2.2.2.2.1, r, ())) fun k (x : ((Unit × (Unit × (Unit × Int))) × ((Bool × ((List q0d) × (List (List Int)))) × ((Bool × (Unit × Unit)) × ((Bool × (Unit × Unit)) × ((List q0d) × ((List (List Int)) × ((List q0d) × ((List (List Int)) × Unit))))))))) => by
  refine Eq.trans ?_ q0b.symm
  rw [l1.f]
  try simp only [el]
  kernel_rfl
noncomputable def l0.f (K : Nat) : Nat → Int → List q0d → List q0d → Option (List q0d)
  | 0, _, _, _ => none
  | k + 1, a0, a2, a8 => bif decide (a0 < (↑a2.length : Int)) then bif decide ((0 : Int) ≤ a0) && true then a2[a0.toNat]?.bind fun t => (q3u.f K).bind fun t_1 => bif (a8.length + [(t.1, (t.2.1.1, t.2.1.2), (t.2.2.1.1, t.2.2.1.2), t.2.2.2)].length).ble (1000000 : Nat) then l0.f K k (IntKind.i64.wrap (a0 + (1 : Int))) a2 (a8 ++ [(t.1, (t.2.1.1, t.2.1.2), (t.2.2.1.1, t.2.2.1.2), t.2.2.2)]) else none else none else some a8
noncomputable def l0.b (K : Nat) : Lp M 0 := q2d (X K) 3 47 0 (q0o Tryz.f61 0) ⟨[1, 2, 3, 4], shf, hs85⟩ ⟨[1, 2, 3], sh33, hs85⟩ K [] (fun k (x : ((Unit × (Unit × (Unit × Int))) × ((Bool × ((List q0d) × (List (List Int)))) × ((Bool × (Unit × Unit)) × ((Bool × (Unit × Unit)) × ((List q0d) × ((List (List Int)) × ((List q0d) × ((List (List Int)) × Unit))))))))) => l0.f K k x.1.2.2.2 x.2.1.2.1 x.2.2.2.2.2.2.1) (fun x r => (((), (), ()), x.2.1, x.2.2.1, x.2.2.2.1, x.2.2.2.2.1, x.2.2.2.2.2.1, r, x.2.2.2.2.2.2.2)) fun k (x : ((Unit × (Unit × (Unit × Int))) × ((Bool × ((List q0d) × (List (List Int)))) × ((Bool × (Unit × Unit)) × ((Bool × (Unit × Unit)) × ((List q0d) × ((List (List Int)) × ((List q0d) × ((List (List Int)) × Unit))))))))) => by
  refine Eq.trans ?_ q0b.symm
  rw [l0.f]
  try simp only [el]
  kernel_rfl
noncomputable def f (K : Nat) (a1 : List q0d) (a2 : List (List Int)) : Option (List q0d × List (List Int)) := (l0.f K K (0 : Int) a1 []).bind fun t => (l1.f K K (0 : Int) a2 []).bind fun t_1 => some (t, t_1)
noncomputable def e (K : Nat) : En M := fnE (X K) 61 Tryz.func61 ⟨sh48, [], sh48, []⟩ [l0.b K, l1.b K] (fun (x : ((Bool × ((List q0d) × (List (List Int)))) × Unit)) => f K x.1.2.1 x.1.2.2) (fun x r => ((x.1.1, r.1, r.2), ())) fun (x : ((Bool × ((List q0d) × (List (List Int)))) × Unit)) => by
  refine Eq.trans ?_ q0b.symm
  rw [f]
  try simp only [el]
  kernel_rfl
end q2r
namespace q10
noncomputable def X (K : Nat) : Fx M 0 := { hmx := mxd, nt := 86, cs := [q2i.e K, q4w.e K, q2r.e K], rf := [(11, ⟨[1, 2, 3, 4, 5], sha, [hh25, .cells 32 0 shb, .cells 32 0 sh2a, .cells 83 0 sh2b, .list 74 q02 [], .list 83 q1r [], .list 80 ySum [], .list 83 q1r [], .list 80 ySum []]⟩)] }
noncomputable def l2.f (K : Nat) : Nat → Int → List LSum → List LSum → Option (List LSum)
  | 0, _, _, _ => none
  | k + 1, a0, a3, a9 => bif decide (a0 < (↑a3.length : Int)) then bif decide ((0 : Int) ≤ a0) && true then a3[a0.toNat]?.bind fun t => (q4w.f K t.2.1).bind fun t_1 => bif (a9.length + [(t.1, t_1, t.2.2.1, t.2.2.2.1, (t.2.2.2.2.1.1, t.2.2.2.2.1.2), (t.2.2.2.2.2.1.1, t.2.2.2.2.2.1.2), t.2.2.2.2.2.2)].length).ble (1000000 : Nat) then l2.f K k (IntKind.i64.wrap (a0 + (1 : Int))) a3 (a9 ++ [(t.1, t_1, t.2.2.1, t.2.2.2.1, (t.2.2.2.2.1.1, t.2.2.2.2.1.2), (t.2.2.2.2.2.1.1, t.2.2.2.2.2.1.2), t.2.2.2.2.2.2)]) else none else none else some a9
noncomputable def l2.b (K : Nat) : Lp M 0 := q2d (X K) 13 86 4 (q0o Tryz.f15 2) ⟨[1, 2, 3, 8], shf, hs87⟩ ⟨[2, 3], sh11, [.cells 32 0 sh12, .cells 32 0 sh2e, .list 74 q02 [], .list 83 q1r [], .list 80 ySum [], .list 83 q1r [], .list 80 ySum []]⟩ K [] (fun k x => l2.f K k x.1.2.2.2 x.2.1.2.2 x.2.2.2.2.2.2.2.2.1) (fun x r => (((), ()), ((), (), ()), x.2.2.2.1, x.2.2.2.2.1, x.2.2.2.2.2.1, x.2.2.2.2.2.2.1, x.2.2.2.2.2.2.2.1, r, ())) fun k x => by
  rw [q0b, l2.f]
  try simp only [el]
  kernel_rfl
noncomputable def l1.f (K : Nat) : Nat → Int → Int → List q0l → List q0j → Option (List q0j)
  | 0, _, _, _, _ => none
  | k + 1, a0, a1, a3, a20 => bif decide ((0 : Int) ≤ a0) && true then a3[a0.toNat]?.bind fun t => bif decide (a1 < (↑(List.length t.2) : Int)) then bif decide ((0 : Int) ≤ a0) && true then a3[a0.toNat]?.bind fun t => bif decide ((0 : Int) ≤ a1) && true then t.2[a1.toNat]?.bind fun t => (q2r.f K t.1.2.1 t.1.2.2).bind fun t_1 => bif ((0 : Nat) + List.length t.2).ble (1000000 : Nat) then bif (a20.length + [((t.1.1, t_1.1, t_1.2), [] ++ t.2)].length).ble (1000000 : Nat) then l1.f K k a0 (IntKind.i64.wrap (a1 + (1 : Int))) a3 (a20 ++ [((t.1.1, t_1.1, t_1.2), [] ++ t.2)]) else none else none else none else none else some a20 else none
noncomputable def l1.b (K : Nat) : Lp M 0 := q2d (X K) 7 86 2 (q0o Tryz.f15 1) ⟨[1, 2, 3, 4, 5, 6], sh30, hs88⟩ ⟨[1, 2, 3, 4, 5], sha, hs88⟩ K [] (fun k (x : ((Unit × (Unit × (Unit × (Int × (Unit × Int))))) × (((List q0d) × ((List q0l) × (List LSum))) × ((Unit × (Unit × Unit)) × (((List q0d) × (Unit × Unit)) × ((Bool × ((List q0d) × (Bool × (Int × (Bool × (Int × (Int × (Int × (Int × Unit))))))))) × ((List q0d) × ((List q0l) × ((List LSum) × ((List q0l) × ((List LSum) × ((List q0j) × Unit)))))))))))) => l1.f K k x.1.2.2.2.1 x.1.2.2.2.2.2 x.2.1.2.1 x.2.2.2.2.2.2.2.2.2.2.1) (fun x r => (((), (), (), x.1.2.2.2.1, ()), x.2.1, ((), (), ()), x.2.2.2.1, x.2.2.2.2.1, x.2.2.2.2.2.1, x.2.2.2.2.2.2.1, x.2.2.2.2.2.2.2.1, x.2.2.2.2.2.2.2.2.1, x.2.2.2.2.2.2.2.2.2.1, r, ())) fun k (x : ((Unit × (Unit × (Unit × (Int × (Unit × Int))))) × (((List q0d) × ((List q0l) × (List LSum))) × ((Unit × (Unit × Unit)) × (((List q0d) × (Unit × Unit)) × ((Bool × ((List q0d) × (Bool × (Int × (Bool × (Int × (Int × (Int × (Int × Unit))))))))) × ((List q0d) × ((List q0l) × ((List LSum) × ((List q0l) × ((List LSum) × ((List q0j) × Unit)))))))))))) => by
  refine Eq.trans ?_ q0b.symm
  rw [l1.f]
  try simp only [el]
  kernel_rfl
noncomputable def l0.f (K : Nat) : Nat → Int → List q0l → List q0l → Option (List q0l)
  | 0, _, _, _ => none
  | k + 1, a0, a2, a8 => bif decide (a0 < (↑a2.length : Int)) then bif decide ((0 : Int) ≤ a0) && true then a2[a0.toNat]?.bind fun t => (q4w.f K t.1.2.1).bind fun t_1 => (l1.f K K a0 (0 : Int) a2 []).bind fun t_2 => bif (a8.length + [((t.1.1, t_1, t.1.2.2.1, t.1.2.2.2.1, (t.1.2.2.2.2.1.1, t.1.2.2.2.2.1.2), (t.1.2.2.2.2.2.1.1, t.1.2.2.2.2.2.1.2), t.1.2.2.2.2.2.2), t_2)].length).ble (1000000 : Nat) then l0.f K k (IntKind.i64.wrap (a0 + (1 : Int))) a2 (a8 ++ [((t.1.1, t_1, t.1.2.2.1, t.1.2.2.2.1, (t.1.2.2.2.2.1.1, t.1.2.2.2.2.1.2), (t.1.2.2.2.2.2.1.1, t.1.2.2.2.2.2.1.2), t.1.2.2.2.2.2.2), t_2)]) else none else none else some a8
noncomputable def l0.b (K : Nat) : Lp M 0 := q2d (X K) 3 86 0 (q0o Tryz.f15 0) ⟨[1, 2, 3, 4], shf, hs87⟩ ⟨[1, 2, 3], sh33, hs87⟩ K [l1.b K] (fun k x => l0.f K k x.1.2.2.2 x.2.1.2.1 x.2.2.2.2.2.2.2.1) (fun x r => (((), (), ()), x.2.1, ((), (), ()), x.2.2.2.1, x.2.2.2.2.1, x.2.2.2.2.2.1, x.2.2.2.2.2.2.1, r, x.2.2.2.2.2.2.2.2)) fun k x => by
  rw [q0b, l0.f]
  try simp only [el]
  kernel_rfl
noncomputable def f (K : Nat) (a0 : List q0d) (a1 : List q0l) (a2 : List LSum) : Option (List q0d × List q0l × List LSum) := (q2i.f K a0).bind fun t => (l0.f K K (0 : Int) a1 []).bind fun t_1 => (l2.f K K (0 : Int) a2 []).bind fun t_2 => some (t, t_1, t_2)
noncomputable def e (K : Nat) : En M := fnE (X K) 15 Tryz.func15 ⟨sh22, [], sh22, []⟩ [l0.b K, l1.b K, l2.b K] (fun x => f K x.1.1 x.1.2.1 x.1.2.2) (fun x r => ((r.1, r.2.1, r.2.2), ())) fun x => by
  rw [q0b, f]
  try simp only [el]
  kernel_rfl
end q10
noncomputable def q0f.sig : Sig := ⟨(.ty (.slice q02)), [], (.ty (.slice q02)), []⟩
noncomputable def q0f.f (K : Nat) (a0 : List q0d) : Option (List q0d) := bif (0 + a0.length).ble 1000000 then some a0 else none
noncomputable def q0f.F (K : Nat) : q0f.sig.In → Option (List q0d) := fun x => q0f.f K x.1
noncomputable def q0f.cv : q0f.sig.In → (List q0d) → q0f.sig.Ou := fun x r => (r, ())
theorem q0f.rets (K : Nat) : ∀ x y, q3r (q0f.F K) q0f.cv x = some y → Rets M 114 q0f.sig x y := fun x y h =>
  q6v (M := M) (g := q0f.sig) (T := q02) (e := 74) (n := 8) (L := 1) (x := x.1) (args0 := x.1) (G := fun xs => bif (0 + xs.length).ble 1000000 then some (q0f.cv (xs, ()) xs) else none) (by kernel_rfl) Tryz.func114 (show Tryz.f114.body = some (.seq _ (.seq (.seq (.region _ #[⟨some 3, .move (.tmp 0), _, _, _, none⟩, ⟨some 4, .binOp .eql _ (.tmp 3) (.const (.slice none 0 0)) _, _, _, _, none⟩] false) _) _)) from rfl)
    (by kernel_rfl) rfl rfl (by kernel_rfl) (by decide) (by kernel_rfl) (by kernel_rfl) (by kernel_rfl) (by kernel_rfl) (by kernel_rfl) (by kernel_rfl) (Eq.trans (show (bif (0 + x.1.length).ble 1000000 then some (q0f.cv x x.1) else none) = (bif (0 + x.1.length).ble 1000000 then some x.1 else none).bind fun r => some (q0f.cv x r) by rw [q6z]; rfl) h) x.2
noncomputable def q0f.e (K : Nat) : En M := ⟨114, q0f.sig, _, q0f.F K, q0f.cv, by rfl, Tryz.f114, Tryz.func114, by kernel_rfl, rfl, q0f.rets K⟩
noncomputable def q0e.sig : Sig := ⟨(.ty (.slice q02)), [], (.own 0), [.list 74 q02 []]⟩
noncomputable def q0e.f (K : Nat) (a0 : List q0d) : Option (List q0d) := bif (0 + a0.length).ble 1000000 then some a0 else none
noncomputable def q0e.F (K : Nat) : q0e.sig.In → Option (List q0d) := fun x => q0e.f K x.1
noncomputable def q0e.cv : q0e.sig.In → (List q0d) → q0e.sig.Ou := fun x r => ((), (r, ()))
theorem q0e.rets (K : Nat) : ∀ x y, q3r (q0e.F K) q0e.cv x = some y → Rets M 114 q0e.sig x y := fun x y h =>
  q6v (M := M) (g := q0e.sig) (T := q02) (e := 74) (n := 8) (L := 1) (x := x.1) (args0 := x.1) (G := fun xs => bif (0 + xs.length).ble 1000000 then some (q0e.cv (xs, ()) xs) else none) (by kernel_rfl) Tryz.func114 (show Tryz.f114.body = some (.seq _ (.seq (.seq (.region _ #[⟨some 3, .move (.tmp 0), _, _, _, none⟩, ⟨some 4, .binOp .eql _ (.tmp 3) (.const (.slice none 0 0)) _, _, _, _, none⟩] false) _) _)) from rfl)
    (by kernel_rfl) rfl rfl (by kernel_rfl) (by decide) (by kernel_rfl) (by kernel_rfl) (by kernel_rfl) (by kernel_rfl) (by kernel_rfl) (by kernel_rfl) (Eq.trans (show (bif (0 + x.1.length).ble 1000000 then some (q0e.cv x x.1) else none) = (bif (0 + x.1.length).ble 1000000 then some x.1 else none).bind fun r => some (q0e.cv x r) by rw [q6z]; rfl) h) x.2
noncomputable def q0e.e (K : Nat) : En M := ⟨114, q0e.sig, _, q0e.F K, q0e.cv, by rfl, Tryz.f114, Tryz.func114, by kernel_rfl, rfl, q0e.rets K⟩
namespace q7k
noncomputable def f (K : Nat) (a1 : List q0d) : Option (List q0d) := q0f.f K a1
noncomputable def e (K : Nat) : En M := fnE (m := 0) { hmx := mxd, nt := 8, cs := [q0f.e K] } 115 Tryz.func115 ⟨sh21, [], sh21, []⟩ [] (fun (x : ((Bool × ((List q0d) × (Bool × (Int × (Bool × (Int × (Int × (Int × Int)))))))) × Unit)) => f K x.1.2.1) (fun x r => ((x.1.1, r, x.1.2.2), ())) fun (x : ((Bool × ((List q0d) × (Bool × (Int × (Bool × (Int × (Int × (Int × Int)))))))) × Unit)) => by
  refine Eq.trans ?_ q0b.symm
  rw [f]
  try simp only [el]
  kernel_rfl
end q7k
namespace q6w
noncomputable def X (K : Nat) : Fx M 0 := { hmx := mxd, nt := 28, cs := [q0e.e K, q0u.e K] }
noncomputable def l0.f (K : Nat) : Nat → List (List Int) → Int → Int → List (List Int) → Option (List (List Int))
  | 0, _, _, _, _ => none
  | k + 1, a0, a1, a2, a8 => bif decide (a2 < a1) then bif decide ((0 : Int) ≤ a2) && true then a0[a2.toNat]?.bind fun t => (q0u.f K t).bind fun t => bif (a8.length + [t].length).ble (1000000 : Nat) then l0.f K k a0 a1 (IntKind.i64.wrap (a2 + (1 : Int))) (a8 ++ [t]) else none else none else some a8
noncomputable def l0.b (K : Nat) : Lp M 0 := q2d (X K) 3 28 0 (q0o Tryz.f116 0) ⟨[2, 3, 13, 14, 15], sh89, hs86⟩ ⟨[2, 3], sh11, hs86⟩ K [] (fun k (x : ((Unit × (Unit × ((List (List Int)) × (Int × Int)))) × ((Bool × (Unit × Unit)) × ((Bool × (Unit × Unit)) × ((List q0d) × ((List (List Int)) × ((List q0d) × ((List (List Int)) × Unit)))))))) => l0.f K k x.1.2.2.1 x.1.2.2.2.1 x.1.2.2.2.2 x.2.2.2.2.2.2.1) (fun x r => (((), ()), x.2.1, x.2.2.1, x.2.2.2.1, x.2.2.2.2.1, x.2.2.2.2.2.1, r, ())) fun k (x : ((Unit × (Unit × ((List (List Int)) × (Int × Int)))) × ((Bool × (Unit × Unit)) × ((Bool × (Unit × Unit)) × ((List q0d) × ((List (List Int)) × ((List q0d) × ((List (List Int)) × Unit)))))))) => by
  refine Eq.trans ?_ q0b.symm
  rw [l0.f]
  try simp only [el]
  kernel_rfl
noncomputable def f (K : Nat) (a1 : List q0d) (a2 : List (List Int)) : Option (List q0d × List (List Int)) := (q0e.f K a1).bind fun t => (l0.f K K a2 (↑a2.length : Int) (0 : Int) []).bind fun t_1 => some (t, t_1)
noncomputable def e (K : Nat) : En M := fnE (X K) 116 Tryz.func116 ⟨sh48, [], sh48, []⟩ [l0.b K] (fun (x : ((Bool × ((List q0d) × (List (List Int)))) × Unit)) => f K x.1.2.1 x.1.2.2) (fun x r => ((x.1.1, r.1, r.2), ())) fun (x : ((Bool × ((List q0d) × (List (List Int)))) × Unit)) => by
  refine Eq.trans ?_ q0b.symm
  rw [f]
  try simp only [el]
  kernel_rfl
end q6w
namespace z50
noncomputable def X (K : Nat) : Fx M 0 := { hmx := mxd, nt := 28, cs := [q0e.e K, q0u.e K] }
noncomputable def l0.f (K : Nat) : Nat → List (List Int) → Int → Int → List (List Int) → Option (List (List Int))
  | 0, _, _, _, _ => none
  | k + 1, a0, a1, a2, a8 => bif decide (a2 < a1) then bif decide ((0 : Int) ≤ a2) && true then a0[a2.toNat]?.bind fun t => (q0u.f K t).bind fun t => bif (a8.length + [t].length).ble (1000000 : Nat) then l0.f K k a0 a1 (IntKind.i64.wrap (a2 + (1 : Int))) (a8 ++ [t]) else none else none else some a8
noncomputable def l0.b (K : Nat) : Lp M 0 := q2d (X K) 3 28 0 (q0o Tryz.f116 0) ⟨[2, 3, 13, 14, 15], sh89, hs86⟩ ⟨[2, 3], sh11, hs86⟩ K [] (fun k (x : ((Unit × (Unit × ((List (List Int)) × (Int × Int)))) × ((Bool × (Unit × Unit)) × ((Bool × (Unit × Unit)) × ((List q0d) × ((List (List Int)) × ((List q0d) × ((List (List Int)) × Unit)))))))) => l0.f K k x.1.2.2.1 x.1.2.2.2.1 x.1.2.2.2.2 x.2.2.2.2.2.2.1) (fun x r => (((), ()), x.2.1, x.2.2.1, x.2.2.2.1, x.2.2.2.2.1, x.2.2.2.2.2.1, r, ())) fun k (x : ((Unit × (Unit × ((List (List Int)) × (Int × Int)))) × ((Bool × (Unit × Unit)) × ((Bool × (Unit × Unit)) × ((List q0d) × ((List (List Int)) × ((List q0d) × ((List (List Int)) × Unit)))))))) => by
  refine Eq.trans ?_ q0b.symm
  rw [l0.f]
  try simp only [el]
  kernel_rfl
noncomputable def f (K : Nat) (a1 : List q0d) (a2 : List (List Int)) : Option (List q0d × List (List Int)) := (q0e.f K a1).bind fun t => (l0.f K K a2 (↑a2.length : Int) (0 : Int) []).bind fun t_1 => some (t, t_1)
noncomputable def e (K : Nat) : En M := fnE (X K) 116 Tryz.func116 ⟨sh48, [], (.agg (.cons (.ty .bool) (.cons (.own 0) (.own 1)))), [.list 74 q02 [], .list 100 (.slice yI) []]⟩ [l0.b K] (fun (x : ((Bool × ((List q0d) × (List (List Int)))) × Unit)) => f K x.1.2.1 x.1.2.2) (fun x r => ((x.1.1, (), ()), r.1, r.2, ())) fun (x : ((Bool × ((List q0d) × (List (List Int)))) × Unit)) => by
  refine Eq.trans ?_ q0b.symm
  rw [f]
  try simp only [el]
  kernel_rfl
end z50
namespace q39
noncomputable def X (K : Nat) : Fx M 0 := { hmx := mxd, nt := 69, cs := [q0f.e K, q7k.e K, q6w.e K, q0u.e K], pr := [(2, [.shape 0 69 ⟨[1, 2, 3], sh33, [hh8a, .cells 32 0 sh10, .cells 32 0 sh2c, .list 74 q02 [], .list 83 q1r [], .list 80 ySum [], .list 83 (.pair ySum (.own 0)) [8], .list 80 ySum [], .void 111 q1g]⟩]), (11, [.shape 0 69 ⟨[1, 2, 3, 6, 16, 17, 18], sh8b, hs8c⟩, .adopt 9 10])] }
noncomputable def l2.f (K : Nat) : Nat → List LSum → Int → Int → List LSum → Option (List LSum)
  | 0, _, _, _, _ => none
  | k + 1, a0, a1, a2, a8 => bif decide (a2 < a1) then bif decide ((0 : Int) ≤ a2) && true then a0[a2.toNat]?.bind fun t => (q7k.f K t.2.1).bind fun t_1 => bif (a8.length + [(t.1, t_1, t.2.2.1, t.2.2.2.1, (t.2.2.2.2.1.1, t.2.2.2.2.1.2), (t.2.2.2.2.2.1.1, t.2.2.2.2.2.1.2), t.2.2.2.2.2.2)].length).ble (1000000 : Nat) then l2.f K k a0 a1 (IntKind.i64.wrap (a2 + (1 : Int))) (a8 ++ [(t.1, t_1, t.2.2.1, t.2.2.2.1, (t.2.2.2.2.1.1, t.2.2.2.2.1.2), (t.2.2.2.2.2.1.1, t.2.2.2.2.2.1.2), t.2.2.2.2.2.2)]) else none else none else some a8
noncomputable def l2.b (K : Nat) : Lp M 0 := q2d (X K) 14 69 4 (q0o Tryz.f62 2) ⟨[2, 3, 54, 55, 56], (.cons (.ptr 0 0) (.cons (.ptr 1 0) (.cons (.ty (.slice ySum)) (.cons (.ty yI) (.ty yI))))), hs8d⟩ ⟨[2, 3], sh11, hs8d⟩ K [] (fun k x => l2.f K k x.1.2.2.1 x.1.2.2.2.1 x.1.2.2.2.2 x.2.2.2.2.2.2.2.1) (fun x r => (((), ()), ((), (), ()), x.2.2.1, x.2.2.2.1, x.2.2.2.2.1, x.2.2.2.2.2.1, x.2.2.2.2.2.2.1, r, x.2.2.2.2.2.2.2.2)) fun k x => by
  rw [q0b, l2.f]
  try simp only [el]
  kernel_rfl
noncomputable def l1.f (K : Nat) : Nat → List q0j → Int → Int → List q0j → Option (List q0j)
  | 0, _, _, _, _ => none
  | k + 1, a3, a4, a5, a24 => bif decide (a5 < a4) then bif decide ((0 : Int) ≤ a5) && true then a3[a5.toNat]?.bind fun t => (q6w.f K t.1.2.1 t.1.2.2).bind fun t_1 => (q0u.f K t.2).bind fun t_2 => bif (a24.length + [((t.1.1, t_1.1, t_1.2), t_2)].length).ble (1000000 : Nat) then l1.f K k a3 a4 (IntKind.i64.wrap (a5 + (1 : Int))) (a24 ++ [((t.1.1, t_1.1, t_1.2), t_2)]) else none else none else some a24
noncomputable def l1.b (K : Nat) : Lp M 0 := q2d (X K) 7 69 2 (q0o Tryz.f62 1) ⟨[1, 2, 3, 6, 16, 17, 18, 27, 28, 29], (.cons (.ptr 0 0) (.cons (.ptr 1 0) (.cons (.ptr 2 0) (.cons (.ptr 3 0) (.cons (.ty (.slice q1r)) (.cons (.ty yI) (.cons (.ty yI) (.cons (.ty (.slice q1g)) (.cons (.ty yI) (.ty yI)))))))))), hs8c⟩ ⟨[1, 2, 3, 6, 16, 17, 18], sh8b, hs8c⟩ K [] (fun k (x : ((Unit × (Unit × (Unit × (Unit × ((List q0l) × (Int × (Int × ((List q0j) × (Int × Int))))))))) × (((List q0d) × ((List q0l) × (List LSum))) × ((Unit × (Unit × Unit)) × (((List q0d) × (Unit × Unit)) × ((Bool × ((List q0d) × (Bool × (Int × (Bool × (Int × (Int × (Int × (Int × Unit))))))))) × ((List q0d) × ((List q0l) × ((List LSum) × ((List (LSum × Nat)) × ((List LSum) × ((List q0j) × ((List (Option (List q0j))) × Unit))))))))))))) => l1.f K k x.1.2.2.2.2.2.2.2.1 x.1.2.2.2.2.2.2.2.2.1 x.1.2.2.2.2.2.2.2.2.2 x.2.2.2.2.2.2.2.2.2.2.1) (fun x r => (((), (), (), (), x.1.2.2.2.2.1, x.1.2.2.2.2.2.1, x.1.2.2.2.2.2.2.1), x.2.1, ((), (), ()), x.2.2.2.1, x.2.2.2.2.1, x.2.2.2.2.2.1, x.2.2.2.2.2.2.1, x.2.2.2.2.2.2.2.1, x.2.2.2.2.2.2.2.2.1, x.2.2.2.2.2.2.2.2.2.1, r, x.2.2.2.2.2.2.2.2.2.2.2)) fun k (x : ((Unit × (Unit × (Unit × (Unit × ((List q0l) × (Int × (Int × ((List q0j) × (Int × Int))))))))) × (((List q0d) × ((List q0l) × (List LSum))) × ((Unit × (Unit × Unit)) × (((List q0d) × (Unit × Unit)) × ((Bool × ((List q0d) × (Bool × (Int × (Bool × (Int × (Int × (Int × (Int × Unit))))))))) × ((List q0d) × ((List q0l) × ((List LSum) × ((List (LSum × Nat)) × ((List LSum) × ((List q0j) × ((List (Option (List q0j))) × Unit))))))))))))) => by
  refine Eq.trans ?_ q0b.symm
  rw [l1.f]
  try simp only [el]
  kernel_rfl
noncomputable def l0.f (K : Nat) : Nat → List q0l → Int → Int → List (LSum × Nat) → List (Option (List q0j)) → Option ((List (LSum × Nat)) × List (Option (List q0j)))
  | 0, _, _, _, _, _ => none
  | k + 1, a0, a1, a2, a10, a12 => bif decide (a2 < a1) then bif decide ((0 : Int) ≤ a2) && true then a0[a2.toNat]?.bind fun t => (q7k.f K t.1.2.1).bind fun t_1 => (l1.f K K t.2 (↑(List.length t.2) : Int) (0 : Int) []).bind fun t_2 => bif (a10.length + [((t.1.1, t_1, t.1.2.2.1, t.1.2.2.2.1, (t.1.2.2.2.2.1.1, t.1.2.2.2.2.1.2), (t.1.2.2.2.2.2.1.1, t.1.2.2.2.2.2.1.2), t.1.2.2.2.2.2.2), a12.length)].length).ble (1000000 : Nat) then l0.f K k a0 a1 (IntKind.i64.wrap (a2 + (1 : Int))) (a10 ++ [((t.1.1, t_1, t.1.2.2.1, t.1.2.2.2.1, (t.1.2.2.2.2.1.1, t.1.2.2.2.2.1.2), (t.1.2.2.2.2.2.1.1, t.1.2.2.2.2.2.1.2), t.1.2.2.2.2.2.2), a12.length)]) (a12 ++ [some t_2]) else none else none else some (a10, a12)
noncomputable def l0.b (K : Nat) : Lp M 0 := q2d (X K) 3 69 0 (q0o Tryz.f62 0) ⟨[1, 2, 3, 16, 17, 18], sh8e, hs8f⟩ ⟨[1, 2, 3], sh33, hs8f⟩ K [l1.b K] (fun k x => l0.f K k x.1.2.2.2.1 x.1.2.2.2.2.1 x.1.2.2.2.2.2 x.2.2.2.2.2.2.2.1 x.2.2.2.2.2.2.2.2.2.1) (fun x r => (((), (), ()), x.2.1, ((), (), ()), x.2.2.2.1, x.2.2.2.2.1, x.2.2.2.2.2.1, x.2.2.2.2.2.2.1, r.1, x.2.2.2.2.2.2.2.2.1, r.2, ())) fun k x => by
  rw [q0b, l0.f]
  try simp only [el]
  kernel_rfl
noncomputable def f (K : Nat) (a0 : List q0d) (a1 : List q0l) (a2 : List LSum) : Option (List q0d × (List (LSum × Nat)) × List LSum × List (Option (List q0j))) := (q0f.f K a0).bind fun t => (l0.f K K a1 (↑a1.length : Int) (0 : Int) [] []).bind fun t_1 => (l2.f K K a2 (↑a2.length : Int) (0 : Int) []).bind fun t_2 => some (t, t_1.1, t_2, t_1.2)
noncomputable def e (K : Nat) : En M := fnE (X K) 62 Tryz.func62 ⟨sh22, [], (.agg (.cons (.ty (.slice q02)) (.cons (.own 0) (.own 1)))), [.list 83 (.pair ySum (.own 0)) [2], .list 80 ySum [], .many 111 q1g]⟩ [l0.b K, l1.b K, l2.b K] (fun x => f K x.1.1 x.1.2.1 x.1.2.2) (fun x r => ((r.1, (), ()), r.2.1, r.2.2.1, r.2.2.2, ())) fun x => by
  rw [q0b, f]
  try simp only [el]
  kernel_rfl
end q39
namespace q9o
noncomputable def X (K : Nat) : Fx M 0 := { hmx := mxd, nt := 29, cs := [], cp := [(2, [.bool], [3])] }
noncomputable def f (K : Nat) (a0 : Int) (a2 : Int) (a3 : Int) : Option (List Int) := bif a0 == (1 : Int) then some [a2] else q1c (bif a0 == (2 : Int) then some (a2 == a3) else some false) fun t => bif t then some [a2] else bif a0 == (2 : Int) then some [a2, a3] else some []
noncomputable def e (K : Nat) : En M := fnE (X K) 204 Tryz.func204 ⟨sh57, [], sh34, []⟩ [] (fun x => f K x.1.1 x.1.2.2.1 x.1.2.2.2) (fun x r => (r, ())) fun x => by
  rw [q0b, f]
  try simp only [el]
  kernel_rfl
end q9o
namespace q9e
noncomputable def X (K : Nat) : Fx M 0 := { hmx := mxd, nt := 21, cs := [q9o.e K] }
noncomputable def l0.f (K : Nat) : Nat → List q1k → Int → Int → List (List Int) → Option (List (List Int))
  | 0, _, _, _, _ => none
  | k + 1, a0, a1, a2, a3 => bif decide (a2 < a1) then bif decide ((0 : Int) ≤ a2) && true then a0[a2.toNat]?.bind fun t => (q9o.f K t.2.1 t.2.2.2.1 t.2.2.2.2).bind fun t => bif (a3.length + [t].length).ble (1000000 : Nat) then l0.f K k a0 a1 (IntKind.i64.wrap (a2 + (1 : Int))) (a3 ++ [t]) else none else none else some a3
noncomputable def l0.b (K : Nat) : Lp M 0 := q2d (X K) 3 21 0 (q0o Tryz.f171 0) ⟨[3, 7, 8, 9], (.cons (.own 0) (.cons (.ty (.slice q3f)) (.cons (.ty yI) (.ty yI)))), [.list 100 (.slice yI) []]⟩ ⟨[3], (.own 0), [.list 100 (.slice yI) []]⟩ K [] (fun k x => l0.f K k x.1.2.1 x.1.2.2.1 x.1.2.2.2 x.2.1) (fun x r => ((), r, ())) fun k x => by
  rw [q0b, l0.f]
  try simp only [el]
  kernel_rfl
noncomputable def f (K : Nat) (a3 : List q1k) : Option (List (List Int)) := l0.f K K a3 (↑a3.length : Int) (0 : Int) []
noncomputable def e (K : Nat) : En M := fnE (X K) 171 Tryz.func171 ⟨sh59, [], (.ty (.slice (.slice yI))), []⟩ [l0.b K] (fun x => f K x.1.2.2.2) (fun x r => (r, ())) fun x => by
  rw [q0b, f]
  try simp only [el]
  kernel_rfl
end q9e
namespace q6o
noncomputable def X (K : Nat) : Fx M 0 := { hmx := mxd, nt := 39, cs := [q9e.e K], pr := [(11, [.shape 0 39 ⟨[3], (.own 0), hs90⟩, .deep 0])] }
noncomputable def l1.f (K : Nat) : Nat → Int → List Int → Int → Int → List Nat → List (Option (List Int)) → Option (List Nat × List (Option (List Int)))
  | 0, _, _, _, _, _, _ => none
  | k + 1, a0, a4, a5, a6, a7, a8 => bif decide (a6 < a5) then bif decide ((0 : Int) ≤ a6) && true then a4[a6.toNat]?.bind fun t => bif decide ((0 : Int) ≤ t) then bif (Int.toNat t).blt a7.length then a7[Int.toNat t]?.bind fun t_1 => a8[t_1]?.bind fun t_2 => t_2.bind fun t_3 => bif (t_3.length + [a0].length).ble (1000000 : Nat) then bif decide ((0 : Int) ≤ t) then bif (Int.toNat t).blt a7.length then a7[Int.toNat t]?.bind fun t_4 => l1.f K k a0 a4 a5 (IntKind.i64.wrap (a6 + (1 : Int))) (a7.set (Int.toNat t) a8.length) (a8.set t_1 none ++ [some (t_3 ++ [a0])]) else none else none else none else none else none else none else some (a7, a8)
noncomputable def l1.b (K : Nat) : Lp M 0 := q2d (X K) 6 39 2 (q0o Tryz.f118 1) ⟨[3, 4, 13, 14, 15, 20, 21, 22], (.cons (.own 0) (.cons (.ty yI) (.cons (.ty (.slice (.slice yI))) (.cons (.ty yI) (.cons (.ty yI) (.cons (.ty (.slice yI)) (.cons (.ty yI) (.ty yI)))))))), hs90⟩ ⟨[3, 13, 14, 15], sh91, hs90⟩ K [] (fun k x => l1.f K k x.1.2.1 x.1.2.2.2.2.2.1 x.1.2.2.2.2.2.2.1 x.1.2.2.2.2.2.2.2 x.2.1 x.2.2.1) (fun x r => (((), x.1.2.2.1, x.1.2.2.2.1, x.1.2.2.2.2.1), r.1, r.2, ())) fun k x => by
  rw [q0b, l1.f]
  try simp only [el]
  kernel_rfl
noncomputable def l0.f (K : Nat) : Nat → List (List Int) → Int → Int → List Nat → List (Option (List Int)) → Option (List Nat × List (Option (List Int)))
  | 0, _, _, _, _, _ => none
  | k + 1, a0, a1, a2, a3, a4 => bif decide (a2 < a1) then bif decide ((0 : Int) ≤ a2) && true then a0[a2.toNat]?.bind fun t => (l1.f K K a2 t (↑(List.length t) : Int) (0 : Int) a3 a4).bind fun t => l0.f K k a0 a1 (IntKind.i64.wrap (a2 + (1 : Int))) t.1 t.2 else none else some (a3, a4)
noncomputable def l0.b (K : Nat) : Lp M 0 := q2d (X K) 3 39 0 (q0o Tryz.f118 0) ⟨[3, 13, 14, 15], sh91, hs90⟩ ⟨[3], (.own 0), hs90⟩ K [l1.b K] (fun k x => l0.f K k x.1.2.1 x.1.2.2.1 x.1.2.2.2 x.2.1 x.2.2.1) (fun x r => ((), r.1, r.2, ())) fun k x => by
  rw [q0b, l0.f]
  try simp only [el]
  kernel_rfl
noncomputable def f (K : Nat) (a3 : List q1k) : Option (List (List Int)) := bif decide ((↑a3.length : Int) ≤ (1000000 : Int)) && (↑a3.length : Int) == (↑a3.length : Int) && true && true then (q9e.f K a3).bind fun t => (l0.f K K t (↑t.length : Int) (0 : Int) (List.range (↑a3.length : Int).toNat) (List.replicate (↑a3.length : Int).toNat (some []))).bind fun t => bif t.1.all (z2a t.2 (Ty.own (0 : Nat))) then some (List.map (z1d yI t.2 (Ty.own (0 : Nat))) t.1) else none else none
noncomputable def e (K : Nat) : En M := fnE (X K) 118 Tryz.func118 ⟨sh59, [], (.ty (.slice (.slice yI))), []⟩ [l0.b K, l1.b K] (fun x => f K x.1.2.2.2) (fun x r => (r, ())) fun x => by
  rw [q0b, f]
  try simp only [el]
  kernel_rfl
end q6o
namespace q5g
noncomputable def X (K : Nat) : Fx M 0 := { hmx := mxd, nt := 38, cs := [q6o.e K], cp := [(5, [.bool], [31])] }
noncomputable def l0.f (K : Nat) : Nat → List (List Int) → Int → Int → List Int → Option (List Int)
  | 0, _, _, _, _ => none
  | k + 1, a0, a1, a2, a3 => bif decide (a2 < a1) then bif decide ((0 : Int) ≤ a2) && true then a0[a2.toNat]?.bind fun t => q1c (bif decide (a2 > (0 : Int)) then bif decide ((↑(List.length t) : Int) > (0 : Int)) then bif decide ((0 : Int) ≤ IntKind.i64.wrap ((↑(List.length t) : Int) - (1 : Int))) && true then t[(IntKind.i64.wrap ((↑(List.length t) : Int) - (1 : Int))).toNat]?.bind fun t => some (decide (t ≥ a2)) else none else some false else some false) fun t => bif t then bif (a3.length + [a2].length).ble (1000000 : Nat) then l0.f K k a0 a1 (IntKind.i64.wrap (a2 + (1 : Int))) (a3 ++ [a2]) else none else l0.f K k a0 a1 (IntKind.i64.wrap (a2 + (1 : Int))) a3 else none else some a3
noncomputable def l0.b (K : Nat) : Lp M 0 := q2d (X K) 3 38 0 (q0o Tryz.f63 0) ⟨[3, 8, 9, 10], sh91, hs1d⟩ ⟨[3], (.own 0), hs1d⟩ K [] (fun k x => l0.f K k x.1.2.1 x.1.2.2.1 x.1.2.2.2 x.2.1) (fun x r => ((), r, ())) fun k x => by
  rw [q0b, l0.f]
  try simp only [el]
  kernel_rfl
noncomputable def f (K : Nat) (a3 : List q1k) : Option (List Int) := (q6o.f K a3).bind fun t => l0.f K K t (↑t.length : Int) (0 : Int) [(0 : Int)]
noncomputable def e (K : Nat) : En M := fnE (X K) 63 Tryz.func63 ⟨sh59, [], sh34, []⟩ [l0.b K] (fun x => f K x.1.2.2.2) (fun x r => (r, ())) fun x => by
  rw [q0b, f]
  try simp only [el]
  kernel_rfl
end q5g
namespace q7u
noncomputable def f (K : Nat) (a0 : Int) : Option (Bool) := some (a0 != a0)
noncomputable def e (K : Nat) : En M := fnE (m := 0) { hmx := mxd, nt := 6, cs := [] } 205 Tryz.func205 ⟨(.ty yI), [], (.ty .bool), []⟩ [] (fun x => f K x.1) (fun x r => (r, ())) fun x => by
  rw [q0b, f]
  try simp only [el]
  kernel_rfl
end q7u
namespace q8i
noncomputable def X (K : Nat) : Fx M 0 := { hmx := mxd, nt := 17, cs := [q7u.e K], cp := [(1, [.bool], [4])] }
noncomputable def f (K : Nat) (a0 : Int) (a1 : Int) : Option (Bool) := q1c ((q7u.f K a0).bind fun t => bif t then (q7u.f K a1).bind fun t => bif !t then some true else some (decide (a0 < a1)) else some (decide (a0 < a1))) fun t => some t
noncomputable def e (K : Nat) : En M := fnE (X K) 172 Tryz.func172 ⟨(.cons (.ty yI) (.ty yI)), [], (.ty .bool), []⟩ [] (fun x => f K x.1.1 x.1.2) (fun x r => (r, ())) fun x => by
  rw [q0b, f]
  try simp only [el]
  kernel_rfl
end q8i
namespace q52
noncomputable def f (K : Nat) (a0 : Int) : Option (Bool) := some (a0 != a0)
noncomputable def e (K : Nat) : En M := fnE (m := 0) { hmx := mxd, nt := 6, cs := [] } 173 Tryz.func173 ⟨(.ty yI), [], (.ty .bool), []⟩ [] (fun x => f K x.1) (fun x r => (r, ())) fun x => by
  rw [q0b, f]
  try simp only [el]
  kernel_rfl
end q52
namespace q2j
noncomputable def X (K : Nat) : Fx M 0 := { hmx := mxd, nt := 54, cs := [q8i.e K, q52.e K], cp := [(8, [yI, .bool], [4, 5])] }
noncomputable def l0.f (K : Nat) : Nat → List Int → Int → Int → Int → Option (Int)
  | 0, _, _, _, _ => none
  | k + 1, a0, a1, a3, a4 => bif decide (a3 < a4) then bif decide ((0 : Int) ≤ IntKind.i64.wrap ((IntKind.u64.wrap (IntKind.i64.wrap (a3 + a4))).fdiv ((2 : Int) ^ (1 : Nat)))) && true then a0[(IntKind.i64.wrap ((IntKind.u64.wrap (IntKind.i64.wrap (a3 + a4))).fdiv ((2 : Int) ^ (1 : Nat)))).toNat]?.bind fun t => (q8i.f K t a1).bind fun t => bif t then l0.f K k a0 a1 (IntKind.i64.wrap (IntKind.i64.wrap ((IntKind.u64.wrap (IntKind.i64.wrap (a3 + a4))).fdiv ((2 : Int) ^ (1 : Nat))) + (1 : Int))) a4 else l0.f K k a0 a1 a3 (IntKind.i64.wrap ((IntKind.u64.wrap (IntKind.i64.wrap (a3 + a4))).fdiv ((2 : Int) ^ (1 : Nat)))) else none else some a3
noncomputable def l0.b (K : Nat) : Lp M 0 := q2d (X K) 3 54 0 (q0o Tryz.f119 0) ⟨[0, 1, 6, 7, 8], (.cons (.ty (.slice yI)) (.cons (.ty yI) (.cons (.ty yI) (.cons (.ty yI) (.ty yI))))), []⟩ ⟨[0, 1, 6, 7], (.cons (.ty (.slice yI)) (.cons (.ty yI) (.cons (.ty yI) (.ty yI)))), []⟩ K [] (fun k x => l0.f K k x.1.1 x.1.2.1 x.1.2.2.2.1 x.1.2.2.2.2) (fun x r => ((x.1.1, x.1.2.1, x.1.2.2.1, r), ())) fun k x => by
  rw [q0b, l0.f]
  try simp only [el]
  kernel_rfl
noncomputable def f (K : Nat) (a0 : List Int) (a1 : Int) : Option (Int × Bool) := (l0.f K K a0 a1 (0 : Int) (↑a0.length : Int)).bind fun t => q1c (bif decide (t < (↑a0.length : Int)) then bif decide ((0 : Int) ≤ t) && true then a0[t.toNat]?.bind fun t_1 => bif t_1 == a1 then some (t, true) else bif decide ((0 : Int) ≤ t) && true then a0[t.toNat]?.bind fun t_2 => (q52.f K t_2).bind fun t_3 => bif t_3 then (q52.f K a1).bind fun t_4 => some (t, t_4) else some (t, false) else none else none else some (t, false)) fun t => some (t.1, t.2)
noncomputable def e (K : Nat) : En M := fnE (X K) 119 Tryz.func119 ⟨(.cons (.ty (.slice yI)) (.ty yI)), [], sh79, []⟩ [l0.b K] (fun x => f K x.1.1 x.1.2) (fun x r => ((r.1, r.2), ())) fun x => by
  rw [q0b, f]
  try simp only [el]
  kernel_rfl
end q2j
namespace q9g
noncomputable def f (K : Nat) (a0 : List Int) (a1 : Int) : Option (Bool) := (q2j.f K a0 a1).bind fun t => some t.2
noncomputable def e (K : Nat) : En M := fnE (m := 0) { hmx := mxd, nt := 14, cs := [q2j.e K] } 64 Tryz.func64 ⟨(.cons (.ty (.slice yI)) (.ty yI)), [], (.ty .bool), []⟩ [] (fun x => f K x.1.1 x.1.2) (fun x r => (r, ())) fun x => by
  rw [q0b, f]
  try simp only [el]
  kernel_rfl
end q9g
namespace q4j
noncomputable def X (K : Nat) : Fx M 0 := { hmx := mxd, nt := 44, cs := [q39.e K, q5g.e K, q9g.e K], pr := [(13, [.shape 0 44 ⟨[4, 5], sh11, hs8d⟩, .deep 5])] }
noncomputable def l1.f (K : Nat) : Nat → List Int → Int → Int → Nat → List (Option (List q0j)) → Option (List (Option (List q0j)))
  | 0, _, _, _, _, _ => none
  | k + 1, a0, a3, a4, a18, a24 => bif decide (a4 < a3) then (q9g.f K a0 a4).bind fun t => bif !t then q1c (a24[a18]?.bind fun t => t.bind fun t => some t.length) fun t => bif decide ((0 : Int) ≤ a4) then bif a4.toNat.blt t then a24[a18]?.bind fun t => t.bind fun t => t[a4.toNat]?.bind fun t_1 => l1.f K k a0 a3 (IntKind.i64.wrap (a4 + (1 : Int))) a18 (a24.set a18 (some (t.set a4.toNat ((false, [], []), [])))) else none else none else l1.f K k a0 a3 (IntKind.i64.wrap (a4 + (1 : Int))) a18 a24 else some a24
noncomputable def l1.b (K : Nat) : Lp M 0 := q2d (X K) 7 44 2 (q0o Tryz.f16 1) ⟨[2, 4, 5, 7, 8, 13, 14, 15, 28, 29], (.cons (.ptr 0 0) (.cons (.ptr 1 0) (.cons (.ptr 2 0) (.cons (.ptr 3 0) (.cons (.ty (.slice yI)) (.cons (.own 4) (.cons (.ty yI) (.cons (.ty yI) (.cons (.ty yI) (.ty yI)))))))))), [hh62, .cells 32 0 she, .cells 32 0 (.cons (.ty (.slice q02)) (.cons (.own 4) (.own 8))), .cells 83 0 (.cons (.ty .bool) (.cons (.ty (.slice q02)) (.cons (.ty .bool) (.cons (.ty yI) (.cons (.ty .bool) (.cons (.ty yI) (.cons (.ty yI) (.cons (.ty yI) (.cons (.ty yI) (.ownI 9)))))))))), .list 83 (.pair ySum (.own 0)) [9], .list 74 q02 [], .list 83 q1r [], .list 80 ySum [], .list 80 ySum [], .many 111 q1g]⟩ ⟨[2, 4, 5, 13, 14, 15], sh92, hs93⟩ K [] (fun k (x : ((Unit × (Unit × (Unit × (Unit × ((List Int) × (Unit × (Int × (Int × (Int × Int))))))))) × (((List Int) × ((List q0t) × (List q0h))) × ((Unit × (Unit × Unit)) × (((List q0d) × (Unit × Unit)) × ((Bool × ((List q0d) × (Bool × (Int × (Bool × (Int × (Int × (Int × (Int × Nat))))))))) × ((List (LSum × Nat)) × ((List q0d) × ((List q0l) × ((List LSum) × ((List LSum) × ((List (Option (List q0j))) × Unit)))))))))))) => l1.f K k x.1.2.2.2.2.1 x.1.2.2.2.2.2.2.2.2.1 x.1.2.2.2.2.2.2.2.2.2 x.2.2.2.2.1.2.2.2.2.2.2.2.2.2 x.2.2.2.2.2.2.2.2.2.2.1) (fun x r => (((), (), (), (), x.1.2.2.2.2.2.2.1, x.1.2.2.2.2.2.2.2.1), x.2.1, ((), (), ()), x.2.2.2.1, x.2.2.2.2.2.1, x.2.2.2.2.2.2.1, x.2.2.2.2.2.2.2.1, x.2.2.2.2.2.2.2.2.1, x.2.2.2.2.2.2.2.2.2.1, r, ())) fun k (x : ((Unit × (Unit × (Unit × (Unit × ((List Int) × (Unit × (Int × (Int × (Int × Int))))))))) × (((List Int) × ((List q0t) × (List q0h))) × ((Unit × (Unit × Unit)) × (((List q0d) × (Unit × Unit)) × ((Bool × ((List q0d) × (Bool × (Int × (Bool × (Int × (Int × (Int × (Int × Nat))))))))) × ((List (LSum × Nat)) × ((List q0d) × ((List q0l) × ((List LSum) × ((List LSum) × ((List (Option (List q0j))) × Unit)))))))))))) => by
  refine Eq.trans ?_ q0b.symm
  rw [l1.f]
  try simp only [el]
  kernel_rfl
noncomputable def l0.f (K : Nat) : Nat → Int → Int → List q0t → List (LSum × Nat) → List (Option (List q0j)) → Option (List (Option (List q0j)))
  | 0, _, _, _, _, _ => none
  | k + 1, a0, a1, a3, a6, a11 => bif decide (a1 < a0) then bif decide ((0 : Int) ≤ a1) then bif a1.toNat.blt a6.length then a6[a1.toNat]?.bind fun t => bif decide ((0 : Int) ≤ a1) && true then a3[a1.toNat]?.bind fun t_1 => (q5g.f K t_1.2.2.2).bind fun t_2 => q1c (a11[t.2]?.bind fun t => t.bind fun t => some t.length) fun t_3 => (l1.f K K t_2 (↑t_3 : Int) (0 : Int) t.2 a11).bind fun t => l0.f K k a0 (IntKind.i64.wrap (a1 + (1 : Int))) a3 a6 t else none else none else none else some a11
noncomputable def l0.b (K : Nat) : Lp M 0 := q2d (X K) 3 44 0 (q0o Tryz.f16 0) ⟨[2, 4, 5, 13, 14, 15], sh92, hs93⟩ ⟨[4, 5], sh11, hs8d⟩ K [l1.b K] (fun k x => l0.f K k x.1.2.2.2.2.1 x.1.2.2.2.2.2 x.2.1.2.1 x.2.2.2.2.1 x.2.2.2.2.2.2.2.2.2.1) (fun x r => (((), ()), ((), (), ()), x.2.2.2.1, x.2.2.2.2.2.1, x.2.2.2.2.2.2.1, x.2.2.2.2.2.2.2.1, x.2.2.2.2.1, x.2.2.2.2.2.2.2.2.1, r, ())) fun k x => by
  rw [q0b, l0.f]
  try simp only [el]
  kernel_rfl
noncomputable def f (K : Nat) (a1 : List q0t) (a3 : List q0d) (a4 : List q0l) (a5 : List LSum) : Option (List q0d × List q0l × List LSum) := (q39.f K a3 a4 a5).bind fun t => (l0.f K K (↑t.2.1.length : Int) (0 : Int) a1 t.2.1 t.2.2.2).bind fun t_1 => bif t.2.1.all (z2a t_1 (ySum.pair (Ty.own (0 : Nat)))) then some (t.1, List.map (z1d q1g t_1 (ySum.pair (Ty.own (0 : Nat)))) t.2.1, t.2.2.1) else none
noncomputable def e (K : Nat) : En M := fnE (X K) 16 Tryz.func16 ⟨sh4d, [], sh22, []⟩ [l0.b K, l1.b K] (fun x => f K x.1.1.2.1 x.1.2.1 x.1.2.2.1 x.1.2.2.2) (fun x r => ((r.1, r.2.1, r.2.2), ())) fun x => by
  rw [q0b, f]
  try simp only [el]
  kernel_rfl
end q4j
namespace q73
noncomputable def X (K : Nat) : Fx M 0 := { hmx := mxd, nt := 9, cs := [], cp := [(1, [.bool], [2])] }
noncomputable def f (K : Nat) (a0 : Int) : Option (Bool) := q1c (bif decide (a0 ≥ (1 : Int)) then some (decide (a0 ≤ (7 : Int))) else some false) fun t => some t
noncomputable def e (K : Nat) : En M := fnE (X K) 144 Tryz.func144 ⟨(.ty yI), [], (.ty .bool), []⟩ [] (fun x => f K x.1) (fun x r => (r, ())) fun x => by
  rw [q0b, f]
  try simp only [el]
  kernel_rfl
end q73
namespace q5z
noncomputable def f (K : Nat) (a0 : Bool) (a1 : Int) : Option (Int) := bif !a0 then some (0 : Int) else some a1
noncomputable def e (K : Nat) : En M := fnE (m := 0) { hmx := mxd, nt := 8, cs := [] } 198 Tryz.func198 ⟨sh44, [], sh44, []⟩ [] (fun (x : ((Bool × Int) × Unit)) => f K x.1.1 x.1.2) (fun x r => ((x.1.1, r), ())) fun (x : ((Bool × Int) × Unit)) => by
  refine Eq.trans ?_ q0b.symm
  rw [f]
  try simp only [el]
  kernel_rfl
end q5z
namespace q78
noncomputable def f (K : Nat) (a0 : Bool) (a1 : Int) : Option (Bool) := (q5z.f K a0 a1).bind fun t => some (bif false then !(a0 == a0 && a1 == t) else a0 == a0 && a1 == t)
noncomputable def e (K : Nat) : En M := fnE (m := 0) { hmx := mxd, nt := 7, cs := [q5z.e K] } 145 Tryz.func145 ⟨sh44, [], (.ty .bool), []⟩ [] (fun (x : ((Bool × Int) × Unit)) => f K x.1.1 x.1.2) (fun x r => (r, ())) fun (x : ((Bool × Int) × Unit)) => by
  refine Eq.trans ?_ q0b.symm
  rw [f]
  try simp only [el]
  kernel_rfl
end q78
namespace q0z
noncomputable def f (K : Nat) (a0 : Int) (a1 : Int) : Option (Bool) := some (decide (a0 ≤ a1))
noncomputable def e (K : Nat) : En M := fnE (m := 0) { hmx := mxd, nt := 8, cs := [] } 146 Tryz.func146 ⟨sh35, [], (.ty .bool), []⟩ [] (fun x => f K x.1.1 x.1.2) (fun x r => (r, ())) fun x => by
  rw [q0b, f]
  try simp only [el]
  kernel_rfl
end q0z
namespace q6c
noncomputable def X (K : Nat) : Fx M 0 := { hmx := mxd, nt := 9, cs := [], cp := [(1, [.bool], [2])] }
noncomputable def f (K : Nat) (a0 : Int) : Option (Bool) := q1c (bif decide (a0 ≥ (1 : Int)) then some (decide (a0 ≤ (3 : Int))) else some false) fun t => some t
noncomputable def e (K : Nat) : En M := fnE (X K) 147 Tryz.func147 ⟨(.ty yI), [], (.ty .bool), []⟩ [] (fun x => f K x.1) (fun x r => (r, ())) fun x => by
  rw [q0b, f]
  try simp only [el]
  kernel_rfl
end q6c
namespace q5p
noncomputable def X (K : Nat) : Fx M 0 := { hmx := mxd, nt := 21, cs := [q73.e K, q78.e K, q0z.e K, q6c.e K], cp := [(1, [.bool], [2])] }
noncomputable def f (K : Nat) (a0 : Int) (a1 : Bool) (a2 : Int) (a3 : Int) (a4 : Int) (a5 : Int) : Option (Bool) := q1c ((q73.f K a0).bind fun t => bif t then (q78.f K a1 a2).bind fun t => bif t then (q0z.f K a3 a4).bind fun t => bif t then (q6c.f K a5).bind fun t => some t else some false else some false else some false) fun t => some t
noncomputable def e (K : Nat) : En M := fnE (X K) 86 Tryz.func86 ⟨sh36, [], (.ty .bool), []⟩ [] (fun (x : ((Int × (Bool × (Int × (Int × (Int × Int))))) × Unit)) => f K x.1.1 x.1.2.1 x.1.2.2.1 x.1.2.2.2.1 x.1.2.2.2.2.1 x.1.2.2.2.2.2) (fun x r => (r, ())) fun (x : ((Int × (Bool × (Int × (Int × (Int × Int))))) × Unit)) => by
  refine Eq.trans ?_ q0b.symm
  rw [f]
  try simp only [el]
  kernel_rfl
end q5p
namespace q5b
noncomputable def X (K : Nat) : Fx M 0 := { hmx := mxd, nt := 25, cs := [z1j.e K] }
noncomputable def l0.f (K : Nat) : Nat → Int → List q32 → Int → Int → Option (Int)
  | 0, _, _, _, _ => none
  | k + 1, a0, a1, a2, a3 => bif decide (a3 < a2) then bif decide ((0 : Int) ≤ a3) && true then a1[a3.toNat]?.bind fun t => (z1j.f K t.1 t.2.1).bind fun t => bif t.2 then l0.f K k (IntKind.i64.wrap (a0 + (1 : Int))) a1 a2 (IntKind.i64.wrap (a3 + (1 : Int))) else l0.f K k a0 a1 a2 (IntKind.i64.wrap (a3 + (1 : Int))) else none else some a0
noncomputable def l0.b (K : Nat) : Lp M 0 := q2d (X K) 3 25 0 (q0o Tryz.f126 0) ⟨[3, 9, 10, 11], (.cons (.ty yI) (.cons (.ty (.slice q69)) (.cons (.ty yI) (.ty yI)))), []⟩ ⟨[3], (.ty yI), []⟩ K [] (fun k x => l0.f K k x.1.1 x.1.2.1 x.1.2.2.1 x.1.2.2.2) (fun x r => (r, ())) fun k x => by
  rw [q0b, l0.f]
  try simp only [el]
  kernel_rfl
noncomputable def f (K : Nat) (a0 : List q32) : Option (Int) := l0.f K K (0 : Int) a0 (↑a0.length : Int) (0 : Int)
noncomputable def e (K : Nat) : En M := fnE (X K) 126 Tryz.func126 ⟨sh72, [], (.ty yI), []⟩ [l0.b K] (fun x => f K x.1.1) (fun x r => (r, ())) fun x => by
  rw [q0b, f]
  try simp only [el]
  kernel_rfl
end q5b
namespace q5f
noncomputable def X (K : Nat) : Fx M 0 := { hmx := mxd, nt := 22, cs := [q5b.e K] }
noncomputable def l0.f (K : Nat) : Nat → Int → List q1k → Int → Int → Option (Int)
  | 0, _, _, _, _ => none
  | k + 1, a0, a1, a2, a3 => bif decide (a3 < a2) then bif decide ((0 : Int) ≤ a3) && true then a1[a3.toNat]?.bind fun t => (q5b.f K t.1).bind fun t => l0.f K k (IntKind.i64.wrap (a0 + t)) a1 a2 (IntKind.i64.wrap (a3 + (1 : Int))) else none else some a0
noncomputable def l0.b (K : Nat) : Lp M 0 := q2d (X K) 3 22 0 (q0o Tryz.f72 0) ⟨[3, 10, 11, 12], (.cons (.ty yI) (.cons (.ty (.slice q3f)) (.cons (.ty yI) (.ty yI)))), []⟩ ⟨[3], (.ty yI), []⟩ K [] (fun k x => l0.f K k x.1.1 x.1.2.1 x.1.2.2.1 x.1.2.2.2) (fun x r => (r, ())) fun k x => by
  rw [q0b, l0.f]
  try simp only [el]
  kernel_rfl
noncomputable def f (K : Nat) (a2 : Int) (a3 : List q1k) : Option (Int) := l0.f K K (if (0 : Int) > a2 then (0 : Int) else a2) a3 (↑a3.length : Int) (0 : Int)
noncomputable def e (K : Nat) : En M := fnE (X K) 72 Tryz.func72 ⟨sh59, [], (.ty yI), []⟩ [l0.b K] (fun x => f K x.1.2.2.1 x.1.2.2.2) (fun x r => (r, ())) fun x => by
  rw [q0b, f]
  try simp only [el]
  kernel_rfl
end q5f
namespace q59
noncomputable def X (K : Nat) : Fx M 0 := { hmx := mxd, nt := 19, cs := [q5f.e K] }
noncomputable def l0.f (K : Nat) : Nat → Int → List q0t → Int → Int → Option (Int)
  | 0, _, _, _, _ => none
  | k + 1, a0, a1, a2, a3 => bif decide (a3 < a2) then bif decide ((0 : Int) ≤ a3) && true then a1[a3.toNat]?.bind fun t => (q5f.f K t.2.2.1 t.2.2.2).bind fun t => l0.f K k (IntKind.i64.wrap (a0 + t)) a1 a2 (IntKind.i64.wrap (a3 + (1 : Int))) else none else some a0
noncomputable def l0.b (K : Nat) : Lp M 0 := q2d (X K) 3 19 0 (q0o Tryz.f19 0) ⟨[3, 7, 8, 9], (.cons (.ty yI) (.cons (.ty (.slice q30)) (.cons (.ty yI) (.ty yI)))), []⟩ ⟨[3], (.ty yI), []⟩ K [] (fun k x => l0.f K k x.1.1 x.1.2.1 x.1.2.2.1 x.1.2.2.2) (fun x r => (r, ())) fun k x => by
  rw [q0b, l0.f]
  try simp only [el]
  kernel_rfl
noncomputable def f (K : Nat) (a1 : List q0t) : Option (Int) := l0.f K K (0 : Int) a1 (↑a1.length : Int) (0 : Int)
noncomputable def e (K : Nat) : En M := fnE (X K) 19 Tryz.func19 ⟨sh0, [], (.ty yI), []⟩ [l0.b K] (fun x => f K x.1.2.1) (fun x r => (r, ())) fun x => by
  rw [q0b, f]
  try simp only [el]
  kernel_rfl
end q59
namespace q6k
noncomputable def f (K : Nat) (a0 : Int) (a1 : Bool) (a2 : Int) (a3 : Int) (a4 : Int) (a5 : Int) : Option (Bool) := (q5p.f K a0 a1 a2 a3 a4 a5).bind fun t => some !t
noncomputable def e (K : Nat) : En M := fnE (m := 0) { hmx := mxd, nt := 6, cs := [q5p.e K] } 149 Tryz.func149 ⟨sh36, [], (.ty .bool), []⟩ [] (fun (x : ((Int × (Bool × (Int × (Int × (Int × Int))))) × Unit)) => f K x.1.1 x.1.2.1 x.1.2.2.1 x.1.2.2.2.1 x.1.2.2.2.2.1 x.1.2.2.2.2.2) (fun x r => (r, ())) fun (x : ((Int × (Bool × (Int × (Int × (Int × Int))))) × Unit)) => by
  refine Eq.trans ?_ q0b.symm
  rw [f]
  try simp only [el]
  kernel_rfl
end q6k
namespace q7s
noncomputable def f (K : Nat) (a0 : Int) (a1 : Bool) (a2 : Int) (a3 : Int) (a4 : Int) (a5 : Int) : Option (Bool) := (q5p.f K a0 a1 a2 a3 a4 a5).bind fun t => some !t
noncomputable def e (K : Nat) : En M := fnE (m := 0) { hmx := mxd, nt := 6, cs := [q5p.e K] } 214 Tryz.func214 ⟨sh36, [], (.ty .bool), []⟩ [] (fun (x : ((Int × (Bool × (Int × (Int × (Int × Int))))) × Unit)) => f K x.1.1 x.1.2.1 x.1.2.2.1 x.1.2.2.2.1 x.1.2.2.2.2.1 x.1.2.2.2.2.2) (fun x r => (r, ())) fun (x : ((Int × (Bool × (Int × (Int × (Int × Int))))) × Unit)) => by
  refine Eq.trans ?_ q0b.symm
  rw [f]
  try simp only [el]
  kernel_rfl
end q7s
namespace q1d
noncomputable def X (K : Nat) : Fx M 0 := { hmx := mxd, nt := 19, cs := [q7s.e K] }
noncomputable def l0.f (K : Nat) : Nat → List q0d → Int → Int → Option ((Unit) ⊕ (Int))
  | 0, _, _, _ => none
  | k + 1, a0, a1, a2 => bif decide (a2 < a1) then bif decide ((0 : Int) ≤ a2) && true then a0[a2.toNat]?.bind fun t => (q7s.f K t.1 t.2.1.1 t.2.1.2 t.2.2.1.1 t.2.2.1.2 t.2.2.2).bind fun t => bif t then some (Sum.inr a2) else l0.f K k a0 a1 (IntKind.i64.wrap (a2 + (1 : Int))) else none else some (Sum.inl ())
noncomputable def l0.b (K : Nat) : Lp M 0 := q37 (X K) 2 19 0 (q0o Tryz.f200 0) ⟨[0, 1, 7, 8], (.cons (.ty (.slice q02)) (.cons (.fn 214 .unit .unit) (.cons (.ty yI) (.ty yI)))), []⟩ ss13 ⟨[4], (.ty yI), []⟩ K [] (fun k x => l0.f K k x.1.1 x.1.2.2.1 x.1.2.2.2) (fun x r => ((), ())) (fun x r => (r, ())) fun k x => by
  rw [q0b, l0.f]
  try simp only [el]
  kernel_rfl
noncomputable def f (K : Nat) (a0 : List q0d) : Option (Int) := (l0.f K K a0 (↑a0.length : Int) (0 : Int)).bind fun t => Sum.elim (fun t => some (-1 : Int)) (fun t => some t) t
noncomputable def e (K : Nat) : En M := fnE (X K) 200 Tryz.func200 ⟨(.cons (.ty (.slice q02)) (.fn 214 .unit .unit)), [], (.ty yI), []⟩ [l0.b K] (fun x => f K x.1.1) (fun x r => (r, ())) fun x => by
  rw [q0b, f]
  try simp only [el]
  kernel_rfl
end q1d
namespace q1e
noncomputable def X (K : Nat) : Fx M 0 := { hmx := mxd, nt := 19, cs := [q6k.e K] }
noncomputable def l0.f (K : Nat) : Nat → List q0d → Int → Int → Option ((Unit) ⊕ (Int))
  | 0, _, _, _ => none
  | k + 1, a0, a1, a2 => bif decide (a2 < a1) then bif decide ((0 : Int) ≤ a2) && true then a0[a2.toNat]?.bind fun t => (q6k.f K t.1 t.2.1.1 t.2.1.2 t.2.2.1.1 t.2.2.1.2 t.2.2.2).bind fun t => bif t then some (Sum.inr a2) else l0.f K k a0 a1 (IntKind.i64.wrap (a2 + (1 : Int))) else none else some (Sum.inl ())
noncomputable def l0.b (K : Nat) : Lp M 0 := q37 (X K) 2 19 0 (q0o Tryz.f200 0) ⟨[0, 1, 7, 8], (.cons (.ty (.slice q02)) (.cons (.fn 149 .unit .unit) (.cons (.ty yI) (.ty yI)))), []⟩ ss13 ⟨[4], (.ty yI), []⟩ K [] (fun k x => l0.f K k x.1.1 x.1.2.2.1 x.1.2.2.2) (fun x r => ((), ())) (fun x r => (r, ())) fun k x => by
  rw [q0b, l0.f]
  try simp only [el]
  kernel_rfl
noncomputable def f (K : Nat) (a0 : List q0d) : Option (Int) := (l0.f K K a0 (↑a0.length : Int) (0 : Int)).bind fun t => Sum.elim (fun t => some (-1 : Int)) (fun t => some t) t
noncomputable def e (K : Nat) : En M := fnE (X K) 200 Tryz.func200 ⟨(.cons (.ty (.slice q02)) (.fn 149 .unit .unit)), [], (.ty yI), []⟩ [l0.b K] (fun x => f K x.1.1) (fun x r => (r, ())) fun x => by
  rw [q0b, f]
  try simp only [el]
  kernel_rfl
end q1e
namespace q1o
noncomputable def f (K : Nat) (a0 : List q0d) : Option (Bool) := (q1d.f K a0).bind fun t => some (decide (t ≥ (0 : Int)))
noncomputable def e (K : Nat) : En M := fnE (m := 0) { hmx := mxd, nt := 9, cs := [q1d.e K] } 150 Tryz.func150 ⟨(.cons (.ty (.slice q02)) (.fn 214 .unit .unit)), [], (.ty .bool), []⟩ [] (fun x => f K x.1.1) (fun x r => (r, ())) fun x => by
  rw [q0b, f]
  try simp only [el]
  kernel_rfl
end q1o
namespace q1p
noncomputable def f (K : Nat) (a0 : List q0d) : Option (Bool) := (q1e.f K a0).bind fun t => some (decide (t ≥ (0 : Int)))
noncomputable def e (K : Nat) : En M := fnE (m := 0) { hmx := mxd, nt := 9, cs := [q1e.e K] } 150 Tryz.func150 ⟨(.cons (.ty (.slice q02)) (.fn 149 .unit .unit)), [], (.ty .bool), []⟩ [] (fun x => f K x.1.1) (fun x r => (r, ())) fun x => by
  rw [q0b, f]
  try simp only [el]
  kernel_rfl
end q1p
namespace q8u
noncomputable def X (K : Nat) : Fx M 0 := { hmx := mxd, nt := 37, cs := [q1p.e K, q6k.e K], cp := [(7, [.bool], [15]), (8, [.bool], [15])] }
noncomputable def f (K : Nat) (a0 : Bool) (a1 : List q0d) (a2 : Bool) (a3 : Int) (a4 : Bool) (a5 : Int) (a6 : Int) (a7 : Int) (a8 : Int) (a9 : Int) : Option (Int) := bif !a0 then bif (↑a1.length : Int) != (0 : Int) then some (12 : Int) else (q1p.f K a1).bind fun t => bif t then some (13 : Int) else q1c (bif a2 then (q6k.f K a3 a4 a5 a6 a7 a8).bind fun t => some t else some false) fun t => bif t then some (13 : Int) else q1c (bif !a2 then some (bif true then !(a3 == (0 : Int) && (a4 == false && a5 == (0 : Int) && (a6 == (0 : Int) && a7 == (0 : Int) && a8 == (0 : Int)))) else a3 == (0 : Int) && (a4 == false && a5 == (0 : Int) && (a6 == (0 : Int) && a7 == (0 : Int) && a8 == (0 : Int)))) else some false) fun t => bif t then some (13 : Int) else some (0 : Int) else bif (↑a1.length : Int) != a9 then some (12 : Int) else (q1p.f K a1).bind fun t => bif t then some (13 : Int) else q1c (bif a2 then (q6k.f K a3 a4 a5 a6 a7 a8).bind fun t => some t else some false) fun t => bif t then some (13 : Int) else q1c (bif !a2 then some (bif true then !(a3 == (0 : Int) && (a4 == false && a5 == (0 : Int) && (a6 == (0 : Int) && a7 == (0 : Int) && a8 == (0 : Int)))) else a3 == (0 : Int) && (a4 == false && a5 == (0 : Int) && (a6 == (0 : Int) && a7 == (0 : Int) && a8 == (0 : Int)))) else some false) fun t => bif t then some (13 : Int) else some (0 : Int)
noncomputable def e (K : Nat) : En M := fnE (X K) 88 Tryz.func88 ⟨sh45, [], (.ty yI), []⟩ [] (fun (x : (((Bool × ((List q0d) × (Bool × (Int × (Bool × (Int × (Int × (Int × Int)))))))) × Int) × Unit)) => f K x.1.1.1 x.1.1.2.1 x.1.1.2.2.1 x.1.1.2.2.2.1 x.1.1.2.2.2.2.1 x.1.1.2.2.2.2.2.1 x.1.1.2.2.2.2.2.2.1 x.1.1.2.2.2.2.2.2.2.1 x.1.1.2.2.2.2.2.2.2.2 x.1.2) (fun x r => (r, ())) fun (x : (((Bool × ((List q0d) × (Bool × (Int × (Bool × (Int × (Int × (Int × Int)))))))) × Int) × Unit)) => by
  refine Eq.trans ?_ q0b.symm
  rw [f]
  try simp only [el]
  kernel_rfl
end q8u
namespace q38
noncomputable def X (K : Nat) : Fx M 0 := { hmx := mxd, nt := 30, cs := [], cp := [(1, [.bool], [13]), (7, [.bool], [27])] }
noncomputable def l0.f (K : Nat) : Nat → Int → Int → List Int → Int → Int → Option ((Unit) ⊕ (Bool))
  | 0, _, _, _, _, _ => none
  | k + 1, a0, a1, a2, a3, a4 => bif decide (a4 < a3) then bif decide ((0 : Int) ≤ a4) && true then a2[a4.toNat]?.bind fun t => q1c (bif decide (t ≤ a1) then some true else some (decide (t ≥ a0))) fun t_1 => bif t_1 then some (Sum.inr false) else l0.f K k a0 t a2 a3 (IntKind.i64.wrap (a4 + (1 : Int))) else none else some (Sum.inl ())
noncomputable def l0.b (K : Nat) : Lp M 0 := q37 (X K) 5 30 0 (q0o Tryz.f151 0) ⟨[0, 5, 14, 15, 16], (.cons (.ty yI) (.cons (.ty yI) (.cons (.ty (.slice yI)) (.cons (.ty yI) (.ty yI))))), []⟩ ss13 ss94 K [] (fun k x => l0.f K k x.1.1 x.1.2.1 x.1.2.2.1 x.1.2.2.2.1 x.1.2.2.2.2) (fun x r => ((), ())) (fun x r => (r, ())) fun k x => by
  rw [q0b, l0.f]
  try simp only [el]
  kernel_rfl
noncomputable def f (K : Nat) (a0 : Int) (a1 : List Int) : Option (Bool) := q1c (bif decide (a0 < (0 : Int)) then some true else some (decide (a0 > (4096 : Int)))) fun t => bif t then some false else (l0.f K K a0 (-1 : Int) a1 (↑a1.length : Int) (0 : Int)).bind fun t => Sum.elim (fun t => some true) (fun t => some t) t
noncomputable def e (K : Nat) : En M := fnE (X K) 151 Tryz.func151 ⟨sh1a, [], (.ty .bool), []⟩ [l0.b K] (fun x => f K x.1.1 x.1.2) (fun x r => (r, ())) fun x => by
  rw [q0b, f]
  try simp only [el]
  kernel_rfl
end q38
namespace q5l
noncomputable def X (K : Nat) : Fx M 0 := { hmx := mxd, nt := 40, cs := [q38.e K, q1o.e K], cp := [(3, [.bool], [23])] }
noncomputable def l0.f (K : Nat) : Nat → Int → List (List Int) → Int → Int → Option ((Unit) ⊕ (Bool))
  | 0, _, _, _, _ => none
  | k + 1, a0, a1, a2, a3 => bif decide (a3 < a2) then bif decide ((0 : Int) ≤ a3) && true then a1[a3.toNat]?.bind fun t => (q38.f K a0 t).bind fun t => bif !t then some (Sum.inr false) else l0.f K k a0 a1 a2 (IntKind.i64.wrap (a3 + (1 : Int))) else none else some (Sum.inl ())
noncomputable def l0.b (K : Nat) : Lp M 0 := q37 (X K) 6 40 0 (q0o Tryz.f199 0) ⟨[2, 3, 25, 26, 27], (.cons (.ty yI) (.cons (.ptr 0 0) (.cons (.ty (.slice (.slice yI))) (.cons (.ty yI) (.ty yI))))), [.cells 109 0 sh3b]⟩ ⟨[3], (.ptr 0 0), [.cells 109 0 sh3b]⟩ ss95 K [] (fun k (x : ((Int × (Unit × ((List (List Int)) × (Int × Int)))) × ((Bool × ((List q0d) × (List (List Int)))) × Unit))) => l0.f K k x.1.1 x.1.2.2.1 x.1.2.2.2.1 x.1.2.2.2.2) (fun x r => ((), x.2)) (fun x r => (r, ())) fun k (x : ((Int × (Unit × ((List (List Int)) × (Int × Int)))) × ((Bool × ((List q0d) × (List (List Int)))) × Unit))) => by
  refine Eq.trans ?_ q0b.symm
  rw [l0.f]
  try simp only [el]
  kernel_rfl
noncomputable def f (K : Nat) (a0 : Bool) (a1 : List q0d) (a2 : List (List Int)) (a3 : Int) (a4 : Int) : Option (Bool) := bif !a0 then q1c (bif (↑a1.length : Int) != (0 : Int) then some true else some ((↑a2.length : Int) != (0 : Int))) fun t => bif t then some false else (l0.f K K a4 a2 (↑a2.length : Int) (0 : Int)).bind fun t => Sum.elim (fun t => (q1o.f K a1).bind fun t => some !t) (fun t => some t) t else q1c (bif (↑a1.length : Int) != a3 then some true else some ((↑a2.length : Int) != a3)) fun t => bif t then some false else (l0.f K K a4 a2 (↑a2.length : Int) (0 : Int)).bind fun t => Sum.elim (fun t => (q1o.f K a1).bind fun t => some !t) (fun t => some t) t
noncomputable def e (K : Nat) : En M := fnE (X K) 199 Tryz.func199 ⟨sh4a, [], (.ty .bool), []⟩ [l0.b K] (fun (x : (((Bool × ((List q0d) × (List (List Int)))) × (Int × Int)) × Unit)) => f K x.1.1.1 x.1.1.2.1 x.1.1.2.2 x.1.2.1 x.1.2.2) (fun x r => (r, ())) fun (x : (((Bool × ((List q0d) × (List (List Int)))) × (Int × Int)) × Unit)) => by
  refine Eq.trans ?_ q0b.symm
  rw [f]
  try simp only [el]
  kernel_rfl
end q5l
namespace q40
noncomputable def X (K : Nat) : Fx M 0 := { hmx := mxd, nt := 63, cs := [q5l.e K, q38.e K], cp := [(4, [.bool], [15]), (9, [.bool], [45])] }
noncomputable def f (K : Nat) (a3 : Int) (a4 : Bool) (a7 : Int) (a9 : Bool) (a10 : List q0d) (a11 : List (List Int)) (a12 : List Int) (a13 : Bool) : Option (Int) := bif a9 then q1c (bif (↑a10.length : Int) != a7 then some true else some ((↑a11.length : Int) != a7)) fun t => bif t then some (12 : Int) else (q5l.f K a9 a10 a11 a7 a3).bind fun t => bif !t then some (13 : Int) else (q38.f K a7 a12).bind fun t => bif !t then some (13 : Int) else q1c (bif a4 then bif !a13 then bif a9 then some true else some (decide ((↑a12.length : Int) > (0 : Int))) else some false else some false) fun t => bif t then some (12 : Int) else some (0 : Int) else q1c (bif (↑a10.length : Int) != (0 : Int) then some true else some ((↑a11.length : Int) != (0 : Int))) fun t => bif t then some (12 : Int) else (q5l.f K a9 a10 a11 a7 a3).bind fun t => bif !t then some (13 : Int) else (q38.f K a7 a12).bind fun t => bif !t then some (13 : Int) else q1c (bif a4 then bif !a13 then bif a9 then some true else some (decide ((↑a12.length : Int) > (0 : Int))) else some false else some false) fun t => bif t then some (12 : Int) else some (0 : Int)
noncomputable def e (K : Nat) : En M := fnE (X K) 148 Tryz.func148 ⟨(.cons (.agg (.cons (.ty (.slice yI)) (.cons (.ty (.slice q30)) (.cons (.ty (.slice q2f)) (.cons (.ty yI) (.ty .bool)))))) (.cons (.agg (.cons (.ty .str) (.cons (.ty yI) (.cons (.ty yI) (.ty (.slice q3f)))))) (.cons (.agg (.cons (.ty .bool) (.cons (.ty (.slice q02)) (.cons (.ty (.slice (.slice yI))) (.ty (.slice yI)))))) (.ty .bool)))), [], (.ty yI), []⟩ [] (fun (x : ((((List Int) × ((List q0t) × ((List q0h) × (Int × Bool)))) × ((ByteArray × (Int × (Int × (List q1k)))) × ((Bool × ((List q0d) × ((List (List Int)) × (List Int)))) × Bool))) × Unit)) => f K x.1.1.2.2.2.1 x.1.1.2.2.2.2 x.1.2.1.2.2.1 x.1.2.2.1.1 x.1.2.2.1.2.1 x.1.2.2.1.2.2.1 x.1.2.2.1.2.2.2 x.1.2.2.2) (fun x r => (r, ())) fun (x : ((((List Int) × ((List q0t) × ((List q0h) × (Int × Bool)))) × ((ByteArray × (Int × (Int × (List q1k)))) × ((Bool × ((List q0d) × ((List (List Int)) × (List Int)))) × Bool))) × Unit)) => by
  refine Eq.trans ?_ q0b.symm
  rw [f]
  try simp only [el]
  kernel_rfl
end q40
namespace q2m
noncomputable def X (K : Nat) : Fx M 0 := { hmx := mxd, nt := 54, cs := [q8u.e K, q5g.e K, q9g.e K, q40.e K, q1z.e K] }
noncomputable def l0.f (K : Nat) : Nat → List Int → List q0j → Int → Int → Int → Bool → Int → Option ((Unit) ⊕ (Err))
  | 0, _, _, _, _, _, _, _ => none
  | k + 1, a0, a1, a2, a3, a7, a8, a11 => bif decide (a3 < a2) then bif decide ((0 : Int) ≤ a3) && true then a1[a3.toNat]?.bind fun t => (q9g.f K a0 a3).bind fun t_1 => (q40.f K a7 a8 a11 t.1.1 t.1.2.1 t.1.2.2 t.2 t_1).bind fun t => bif t != (0 : Int) then (q1z.f K (Err.no t) [a3]).bind fun t => some (Sum.inr t) else l0.f K k a0 a1 a2 (IntKind.i64.wrap (a3 + (1 : Int))) a7 a8 a11 else none else some (Sum.inl ())
noncomputable def l0.b (K : Nat) : Lp M 0 := q37 (X K) 8 54 0 (q0o Tryz.f87 0) ⟨[3, 4, 8, 32, 33, 34], (.cons (.ptr 0 0) (.cons (.ptr 1 0) (.cons (.ty (.slice yI)) (.cons (.ty (.slice q1g)) (.cons (.ty yI) (.ty yI)))))), [.cells 209 0 sh96, hh63]⟩ ss13 ss64 K [] (fun k (x : ((Unit × (Unit × ((List Int) × ((List q0j) × (Int × Int))))) × (((List Int) × ((List q0t) × ((List q0h) × (Int × Bool)))) × ((ByteArray × (Int × (Int × (List q1k)))) × Unit)))) => l0.f K k x.1.2.2.1 x.1.2.2.2.1 x.1.2.2.2.2.1 x.1.2.2.2.2.2 x.2.1.2.2.2.1 x.2.1.2.2.2.2 x.2.2.1.2.2.1) (fun x r => ((), ())) (fun x r => (r, ())) fun k (x : ((Unit × (Unit × ((List Int) × ((List q0j) × (Int × Int))))) × (((List Int) × ((List q0t) × ((List q0h) × (Int × Bool)))) × ((ByteArray × (Int × (Int × (List q1k)))) × Unit)))) => by
  refine Eq.trans ?_ q0b.symm
  rw [l0.f]
  try simp only [el]
  kernel_rfl
noncomputable def f (K : Nat) (a3 : Int) (a4 : Bool) (a6 : Int) (a7 : Int) (a8 : List q1k) (a9 : Bool) (a10 : List q0d) (a11 : Bool) (a12 : Int) (a13 : Bool) (a14 : Int) (a15 : Int) (a16 : Int) (a17 : Int) (a18 : List q0j) : Option (Err) := (q8u.f K a9 a10 a11 a12 a13 a14 a15 a16 a17 a6).bind fun t => bif t != (0 : Int) then some (Err.no t) else bif (↑a18.length : Int) != (↑a8.length : Int) then some (Err.no (12 : Int)) else (q5g.f K a8).bind fun t => (l0.f K K t a18 (↑a18.length : Int) (0 : Int) a3 a4 a7).bind fun t => Sum.elim (fun t => some Err.nil) (fun t => some t) t
noncomputable def e (K : Nat) : En M := fnE (X K) 87 Tryz.func87 ⟨(.cons (.agg (.cons (.ty (.slice yI)) (.cons (.ty (.slice q30)) (.cons (.ty (.slice q2f)) (.cons (.ty yI) (.ty .bool)))))) (.cons (.agg (.cons (.ty .str) (.cons (.ty yI) (.cons (.ty yI) (.ty (.slice q3f)))))) (.agg (.cons (.ty .bool) (.cons (.ty (.slice q02)) (.cons (.ty .bool) (.cons (.ty yI) (.cons (.ty .bool) (.cons (.ty yI) (.cons (.ty yI) (.cons (.ty yI) (.cons (.ty yI) (.ty (.slice q1g)))))))))))))), [], (.ty .err), []⟩ [l0.b K] (fun (x : ((((List Int) × ((List q0t) × ((List q0h) × (Int × Bool)))) × ((ByteArray × (Int × (Int × (List q1k)))) × (Bool × ((List q0d) × (Bool × (Int × (Bool × (Int × (Int × (Int × (Int × (List q0j)))))))))))) × Unit)) => f K x.1.1.2.2.2.1 x.1.1.2.2.2.2 x.1.2.1.2.1 x.1.2.1.2.2.1 x.1.2.1.2.2.2 x.1.2.2.1 x.1.2.2.2.1 x.1.2.2.2.2.1 x.1.2.2.2.2.2.1 x.1.2.2.2.2.2.2.1 x.1.2.2.2.2.2.2.2.1 x.1.2.2.2.2.2.2.2.2.1 x.1.2.2.2.2.2.2.2.2.2.1 x.1.2.2.2.2.2.2.2.2.2.2.1 x.1.2.2.2.2.2.2.2.2.2.2.2) (fun x r => (r, ())) fun (x : ((((List Int) × ((List q0t) × ((List q0h) × (Int × Bool)))) × ((ByteArray × (Int × (Int × (List q1k)))) × (Bool × ((List q0d) × (Bool × (Int × (Bool × (Int × (Int × (Int × (Int × (List q0j)))))))))))) × Unit)) => by
  refine Eq.trans ?_ q0b.symm
  rw [f]
  try simp only [el]
  kernel_rfl
end q2m
namespace q3j
noncomputable def X (K : Nat) : Fx M 0 := { hmx := mxd, nt := 116, cs := [q4o.e K, q5p.e K, q1z.e K, q59.e K, q2m.e K, q8u.e K], cp := [(4, [.bool], [46])] }
noncomputable def l2.f (K : Nat) : Nat → List LSum → Int → Int → List q0h → Option ((Unit) ⊕ (Err))
  | 0, _, _, _, _ => none
  | k + 1, a0, a1, a2, a5 => bif decide (a2 < a1) then bif decide ((0 : Int) ≤ a2) && true then a0[a2.toNat]?.bind fun t => bif decide ((0 : Int) ≤ a2) && true then a5[a2.toNat]?.bind fun t_1 => (q8u.f K t.1 t.2.1 t.2.2.1 t.2.2.2.1 t.2.2.2.2.1.1 t.2.2.2.2.1.2 t.2.2.2.2.2.1.1 t.2.2.2.2.2.1.2 t.2.2.2.2.2.2 t_1.2).bind fun t => bif t != (0 : Int) then (q1z.f K (Err.no t) [(2 : Int), a2]).bind fun t => some (Sum.inr t) else l2.f K k a0 a1 (IntKind.i64.wrap (a2 + (1 : Int))) a5 else none else none else some (Sum.inl ())
noncomputable def l2.b (K : Nat) : Lp M 0 := q37 (X K) 21 116 4 (q0o Tryz.f32 2) ⟨[3, 93, 94, 95], sh97, [hh62]⟩ ss13 ss64 K [] (fun k x => l2.f K k x.1.2.1 x.1.2.2.1 x.1.2.2.2 x.2.1.2.2) (fun x r => ((), ())) (fun x r => (r, ())) fun k x => by
  rw [q0b, l2.f]
  try simp only [el]
  kernel_rfl
noncomputable def l1.f (K : Nat) : Nat → List q0l → Int → Int → List q0t → Int → Bool → Option ((Unit) ⊕ (Err))
  | 0, _, _, _, _, _, _ => none
  | k + 1, a0, a1, a2, a4, a12, a13 => bif decide (a2 < a1) then bif decide ((0 : Int) ≤ a2) && true then a0[a2.toNat]?.bind fun t => bif decide ((0 : Int) ≤ a2) && true then a4[a2.toNat]?.bind fun t_1 => (q2m.f K a12 a13 t_1.2.1 t_1.2.2.1 t_1.2.2.2 t.1.1 t.1.2.1 t.1.2.2.1 t.1.2.2.2.1 t.1.2.2.2.2.1.1 t.1.2.2.2.2.1.2 t.1.2.2.2.2.2.1.1 t.1.2.2.2.2.2.1.2 t.1.2.2.2.2.2.2 t.2).bind fun t => bif bif true then !t.isNil else t.isNil then (q1z.f K t [(1 : Int), a2]).bind fun t => some (Sum.inr t) else l1.f K k a0 a1 (IntKind.i64.wrap (a2 + (1 : Int))) a4 a12 a13 else none else none else some (Sum.inl ())
noncomputable def l1.b (K : Nat) : Lp M 0 := q37 (X K) 14 116 2 (q0o Tryz.f32 1) ⟨[3, 4, 10, 70, 71, 72], sh8e, [hh62, hh8a, .cells 209 0 sh96]⟩ ⟨[3, 4], sh11, [hh62, hh8a]⟩ ss64 K [] (fun k (x : ((Unit × (Unit × (Unit × ((List q0l) × (Int × Int))))) × (((List Int) × ((List q0t) × (List q0h))) × (((List q0d) × ((List q0l) × (List LSum))) × (((List Int) × ((List q0t) × ((List q0h) × (Int × Bool)))) × Unit))))) => l1.f K k x.1.2.2.2.1 x.1.2.2.2.2.1 x.1.2.2.2.2.2 x.2.1.2.1 x.2.2.2.1.2.2.2.1 x.2.2.2.1.2.2.2.2) (fun x r => (((), ()), x.2.1, x.2.2.1, ())) (fun x r => (r, ())) fun k (x : ((Unit × (Unit × (Unit × ((List q0l) × (Int × Int))))) × (((List Int) × ((List q0t) × (List q0h))) × (((List q0d) × ((List q0l) × (List LSum))) × (((List Int) × ((List q0t) × ((List q0h) × (Int × Bool)))) × Unit))))) => by
  refine Eq.trans ?_ q0b.symm
  rw [l1.f]
  try simp only [el]
  kernel_rfl
noncomputable def l0.f (K : Nat) : Nat → List q0d → Int → Int → Option ((Unit) ⊕ (Err))
  | 0, _, _, _ => none
  | k + 1, a1, a2, a3 => bif decide (a3 < a2) then bif decide ((0 : Int) ≤ a3) && true then a1[a3.toNat]?.bind fun t => (q5p.f K t.1 t.2.1.1 t.2.1.2 t.2.2.1.1 t.2.2.1.2 t.2.2.2).bind fun t => bif !t then (q1z.f K (Err.no (13 : Int)) [(0 : Int), a3]).bind fun t => some (Sum.inr t) else l0.f K k a1 a2 (IntKind.i64.wrap (a3 + (1 : Int))) else none else some (Sum.inl ())
noncomputable def l0.b (K : Nat) : Lp M 0 := q37 (X K) 7 116 0 (q0o Tryz.f32 0) ⟨[2, 3, 4, 49, 50, 51], (.cons (.ty .bool) (.cons (.ptr 0 0) (.cons (.ptr 1 0) (.cons (.ty (.slice q02)) (.cons (.ty yI) (.ty yI)))))), [hh62, hh8a]⟩ ⟨[2, 3, 4], (.cons (.ty .bool) (.cons (.ptr 0 0) (.ptr 1 0))), [hh62, hh8a]⟩ ss64 K [] (fun k (x : ((Bool × (Unit × (Unit × ((List q0d) × (Int × Int))))) × (((List Int) × ((List q0t) × (List q0h))) × (((List q0d) × ((List q0l) × (List LSum))) × Unit)))) => l0.f K k x.1.2.2.2.1 x.1.2.2.2.2.1 x.1.2.2.2.2.2) (fun x r => ((x.1.1, (), ()), x.2)) (fun x r => (r, ())) fun k (x : ((Bool × (Unit × (Unit × ((List q0d) × (Int × Int))))) × (((List Int) × ((List q0t) × (List q0h))) × (((List q0d) × ((List q0l) × (List LSum))) × Unit)))) => by
  refine Eq.trans ?_ q0b.symm
  rw [l0.f]
  try simp only [el]
  kernel_rfl
noncomputable def f (K : Nat) (a0 : List Int) (a1 : List q0t) (a2 : List q0h) (a3 : List q0d) (a4 : List q0l) (a5 : List LSum) (a6 : Bool) : Option (Err) := (q4o.f K a0 a1 a2).bind fun t => bif bif true then !t.isNil else t.isNil then some t else q1c (bif (↑a3.length : Int) != (↑a0.length : Int) then some true else bif (↑a4.length : Int) != (↑a1.length : Int) then some true else some ((↑a5.length : Int) != (↑a2.length : Int))) fun t => bif t then some (Err.no (12 : Int)) else (l0.f K K a3 (↑a3.length : Int) (0 : Int)).bind fun t => Sum.elim (fun t => (q59.f K a1).bind fun t => (l1.f K K a4 (↑a4.length : Int) (0 : Int) a1 t a6).bind fun t => Sum.elim (fun t => (l2.f K K a5 (↑a5.length : Int) (0 : Int) a2).bind fun t => Sum.elim (fun t => some Err.nil) (fun t => some t) t) (fun t => some t) t) (fun t => some t) t
noncomputable def e (K : Nat) : En M := fnE (X K) 32 Tryz.func32 ⟨sh56, [], (.ty .err), []⟩ [l0.b K, l1.b K, l2.b K] (fun (x : ((((List Int) × ((List q0t) × (List q0h))) × (((List q0d) × ((List q0l) × (List LSum))) × Bool)) × Unit)) => f K x.1.1.1 x.1.1.2.1 x.1.1.2.2 x.1.2.1.1 x.1.2.1.2.1 x.1.2.1.2.2 x.1.2.2) (fun x r => (r, ())) fun (x : ((((List Int) × ((List q0t) × (List q0h))) × (((List q0d) × ((List q0l) × (List LSum))) × Bool)) × Unit)) => by
  refine Eq.trans ?_ q0b.symm
  rw [f]
  try simp only [el]
  kernel_rfl
end q3j
namespace q7e
noncomputable def f (K : Nat) : Option (List Int) := some [(65 : Int), (70 : Int), (1 : Int)]
noncomputable def e (K : Nat) : En M := fnE (m := 0) { hmx := mxd, nt := 2, cs := [] } 35 Tryz.func35 ⟨.unit, [], sh69, []⟩ [] (fun x => f K) (fun x r => (r, ())) fun x => by
  rw [q0b, f]
  try simp only [el]
  kernel_rfl
end q7e
namespace q5e
noncomputable def X (K : Nat) : Fx M 2 := { hmx := mxd, nt := 68, cs := [q5p.e K, q0v.e K, q19.e K] }
noncomputable def l0.f (K : Nat) : Nat → Int → Int → List Int → List Int → Option (List Int)
  | 0, _, _, _, _ => none
  | k + 1, a0, a1, a2, a3 => bif decide (a1 < a0) then bif decide ((0 : Int) ≤ a1) then bif a1.toNat.blt a2.length then a2[a1.toNat]?.bind fun t => (q19.f K t a3).bind fun t => l0.f K k a0 (IntKind.i64.wrap (a1 + (1 : Int))) a2 t else none else none else some a3
noncomputable def l0.b (K : Nat) : Lp M 2 := q2d (X K) 13 68 0 (q0o Tryz.f38 0) ⟨[0, 58, 59, 60], sh98, [hh68, .dead, .list 2 yI [], .list 5 (.int .u8) []]⟩ ⟨[], .unit, hs66⟩ K [] (fun k x => l0.f K k x.1.2.2.1 x.1.2.2.2 x.2.2.2.1 x.2.2.2.2.1) (fun x r => ((), (), (), r, ())) fun k x => by
  rw [q0b, l0.f]
  try simp only [el]
  kernel_rfl
noncomputable def f (K : Nat) (a0 : Int) (a1 : Bool) (a2 : Int) (a3 : Int) (a4 : Int) (a5 : Int) (a6 : List Int) : Option (Err × List Int) := (q5p.f K a0 a1 a2 a3 a4 a5).bind fun t => bif !t then some (Err.no (13 : Int), a6) else bif a1 then bif a3 != (-9223372036854775808 : Int) then bif a4 != (9223372036854775807 : Int) then (q0v.f K (IntKind.u8.wrap (IntKind.i64.wrap (↑(BitVec.ofInt (64 : Nat) (IntKind.i64.wrap (↑(BitVec.ofInt (64 : Nat) (IntKind.i64.wrap (↑(BitVec.ofInt (64 : Nat) (IntKind.i64.wrap (↑(BitVec.ofInt (64 : Nat) a0 ||| BitVec.ofInt (64 : Nat) (IntKind.i64.wrap (a5 * (2 : Int) ^ (4 : Nat)))).toNat : Int)) ||| BitVec.ofInt (64 : Nat) (8 : Int)).toNat : Int)) ||| BitVec.ofInt (64 : Nat) (64 : Int)).toNat : Int)) ||| BitVec.ofInt (64 : Nat) (128 : Int)).toNat : Int))) a6).bind fun t => (l0.f K K (↑([] ++ [a2] ++ [a3] ++ [a4]).length : Int) (0 : Int) ([] ++ [a2] ++ [a3] ++ [a4]) t).bind fun t => some (Err.nil, t) else (q0v.f K (IntKind.u8.wrap (IntKind.i64.wrap (↑(BitVec.ofInt (64 : Nat) (IntKind.i64.wrap (↑(BitVec.ofInt (64 : Nat) (IntKind.i64.wrap (↑(BitVec.ofInt (64 : Nat) a0 ||| BitVec.ofInt (64 : Nat) (IntKind.i64.wrap (a5 * (2 : Int) ^ (4 : Nat)))).toNat : Int)) ||| BitVec.ofInt (64 : Nat) (8 : Int)).toNat : Int)) ||| BitVec.ofInt (64 : Nat) (64 : Int)).toNat : Int))) a6).bind fun t => (l0.f K K (↑([] ++ [a2] ++ [a3]).length : Int) (0 : Int) ([] ++ [a2] ++ [a3]) t).bind fun t => some (Err.nil, t) else bif a4 != (9223372036854775807 : Int) then (q0v.f K (IntKind.u8.wrap (IntKind.i64.wrap (↑(BitVec.ofInt (64 : Nat) (IntKind.i64.wrap (↑(BitVec.ofInt (64 : Nat) (IntKind.i64.wrap (↑(BitVec.ofInt (64 : Nat) a0 ||| BitVec.ofInt (64 : Nat) (IntKind.i64.wrap (a5 * (2 : Int) ^ (4 : Nat)))).toNat : Int)) ||| BitVec.ofInt (64 : Nat) (8 : Int)).toNat : Int)) ||| BitVec.ofInt (64 : Nat) (128 : Int)).toNat : Int))) a6).bind fun t => (l0.f K K (↑([] ++ [a2] ++ [a4]).length : Int) (0 : Int) ([] ++ [a2] ++ [a4]) t).bind fun t => some (Err.nil, t) else (q0v.f K (IntKind.u8.wrap (IntKind.i64.wrap (↑(BitVec.ofInt (64 : Nat) (IntKind.i64.wrap (↑(BitVec.ofInt (64 : Nat) a0 ||| BitVec.ofInt (64 : Nat) (IntKind.i64.wrap (a5 * (2 : Int) ^ (4 : Nat)))).toNat : Int)) ||| BitVec.ofInt (64 : Nat) (8 : Int)).toNat : Int))) a6).bind fun t => (l0.f K K (↑([] ++ [a2]).length : Int) (0 : Int) ([] ++ [a2]) t).bind fun t => some (Err.nil, t) else bif a3 != (-9223372036854775808 : Int) then bif a4 != (9223372036854775807 : Int) then (q0v.f K (IntKind.u8.wrap (IntKind.i64.wrap (↑(BitVec.ofInt (64 : Nat) (IntKind.i64.wrap (↑(BitVec.ofInt (64 : Nat) (IntKind.i64.wrap (↑(BitVec.ofInt (64 : Nat) a0 ||| BitVec.ofInt (64 : Nat) (IntKind.i64.wrap (a5 * (2 : Int) ^ (4 : Nat)))).toNat : Int)) ||| BitVec.ofInt (64 : Nat) (64 : Int)).toNat : Int)) ||| BitVec.ofInt (64 : Nat) (128 : Int)).toNat : Int))) a6).bind fun t => (l0.f K K (↑([] ++ [a3] ++ [a4]).length : Int) (0 : Int) ([] ++ [a3] ++ [a4]) t).bind fun t => some (Err.nil, t) else (q0v.f K (IntKind.u8.wrap (IntKind.i64.wrap (↑(BitVec.ofInt (64 : Nat) (IntKind.i64.wrap (↑(BitVec.ofInt (64 : Nat) a0 ||| BitVec.ofInt (64 : Nat) (IntKind.i64.wrap (a5 * (2 : Int) ^ (4 : Nat)))).toNat : Int)) ||| BitVec.ofInt (64 : Nat) (64 : Int)).toNat : Int))) a6).bind fun t => (l0.f K K (↑([] ++ [a3]).length : Int) (0 : Int) ([] ++ [a3]) t).bind fun t => some (Err.nil, t) else bif a4 != (9223372036854775807 : Int) then (q0v.f K (IntKind.u8.wrap (IntKind.i64.wrap (↑(BitVec.ofInt (64 : Nat) (IntKind.i64.wrap (↑(BitVec.ofInt (64 : Nat) a0 ||| BitVec.ofInt (64 : Nat) (IntKind.i64.wrap (a5 * (2 : Int) ^ (4 : Nat)))).toNat : Int)) ||| BitVec.ofInt (64 : Nat) (128 : Int)).toNat : Int))) a6).bind fun t => (l0.f K K (↑([] ++ [a4]).length : Int) (0 : Int) ([] ++ [a4]) t).bind fun t => some (Err.nil, t) else (q0v.f K (IntKind.u8.wrap (IntKind.i64.wrap (↑(BitVec.ofInt (64 : Nat) a0 ||| BitVec.ofInt (64 : Nat) (IntKind.i64.wrap (a5 * (2 : Int) ^ (4 : Nat)))).toNat : Int))) a6).bind fun t => (l0.f K K (↑(0 : Nat) : Int) (0 : Int) [] t).bind fun t => some (Err.nil, t)
noncomputable def e (K : Nat) : En M := fnE (X K) 38 Tryz.func38 ⟨(.cons (.ptr 0 0) (.agg (.cons (.ty yI) (.cons (.ty .bool) (.cons (.ty yI) (.cons (.ty yI) (.cons (.ty yI) (.ty yI)))))))), hs65, (.ty .err), hs66⟩ [l0.b K] (fun (x : ((Unit × (Int × (Bool × (Int × (Int × (Int × Int)))))) × (Unit × ((List Int) × Unit)))) => f K x.1.2.1 x.1.2.2.1 x.1.2.2.2.1 x.1.2.2.2.2.1 x.1.2.2.2.2.2.1 x.1.2.2.2.2.2.2 x.2.2.1) (fun x r => (r.1, (), (), r.2, ())) fun (x : ((Unit × (Int × (Bool × (Int × (Int × (Int × Int)))))) × (Unit × ((List Int) × Unit)))) => by
  refine Eq.trans ?_ q0b.symm
  rw [f]
  try simp only [el]
  kernel_rfl
end q5e
namespace q6g
noncomputable def X (K : Nat) : Fx M 2 := { hmx := mxd, nt := 37, cs := [q0v.e K, q5e.e K] }
noncomputable def l0.f (K : Nat) : Nat → Int → Int → List q0d → List Int → Option (List Int)
  | 0, _, _, _, _ => none
  | k + 1, a0, a1, a2, a3 => bif decide (a1 < a0) then bif decide ((0 : Int) ≤ a1) then bif a1.toNat.blt a2.length then a2[a1.toNat]?.bind fun t => (q5e.f K t.1 t.2.1.1 t.2.1.2 t.2.2.1.1 t.2.2.1.2 t.2.2.2 a3).bind fun t => l0.f K k a0 (IntKind.i64.wrap (a1 + (1 : Int))) a2 t.2 else none else none else some a3
noncomputable def l0.b (K : Nat) : Lp M 2 := q2d (X K) 8 37 0 (q0o Tryz.f39 0) ⟨[0, 27, 28, 29], sh98, [hh68, .dead, .list 74 q02 [], .list 5 (.int .u8) []]⟩ ⟨[], .unit, hs66⟩ K [] (fun k x => l0.f K k x.1.2.2.1 x.1.2.2.2 x.2.2.2.1 x.2.2.2.2.1) (fun x r => ((), (), (), r, ())) fun k x => by
  rw [q0b, l0.f]
  try simp only [el]
  kernel_rfl
noncomputable def f (K : Nat) (a0 : Bool) (a1 : List q0d) (a2 : Bool) (a3 : Int) (a4 : Bool) (a5 : Int) (a6 : Int) (a7 : Int) (a8 : Int) (a9 : List Int) : Option (List Int) := bif a0 then bif ((0 : Nat) + a1.length).ble (1000000 : Nat) then bif a2 then bif (([] ++ a1).length + [(a3, (a4, a5), (a6, a7), a8)].length).ble (1000000 : Nat) then (q0v.f K (IntKind.u8.wrap (IntKind.i64.wrap (↑(3 : Nat) : Int))) a9).bind fun t => l0.f K K (↑([] ++ a1 ++ [(a3, (a4, a5), (a6, a7), a8)]).length : Int) (0 : Int) ([] ++ a1 ++ [(a3, (a4, a5), (a6, a7), a8)]) t else none else (q0v.f K (IntKind.u8.wrap (1 : Int)) a9).bind fun t => l0.f K K (↑([] ++ a1).length : Int) (0 : Int) ([] ++ a1) t else none else bif a2 then (q0v.f K (IntKind.u8.wrap (IntKind.i64.wrap (↑(2 : Nat) : Int))) a9).bind fun t => l0.f K K (↑([] ++ [(a3, (a4, a5), (a6, a7), a8)]).length : Int) (0 : Int) ([] ++ [(a3, (a4, a5), (a6, a7), a8)]) t else (q0v.f K (IntKind.u8.wrap (0 : Int)) a9).bind fun t => l0.f K K (↑(0 : Nat) : Int) (0 : Int) [] t
noncomputable def e (K : Nat) : En M := fnE (X K) 39 Tryz.func39 ⟨(.cons (.ptr 0 0) (.agg (.cons (.ty .bool) (.cons (.ty (.slice q02)) (.cons (.ty .bool) (.cons (.ty yI) (.cons (.ty .bool) (.cons (.ty yI) (.cons (.ty yI) (.cons (.ty yI) (.ty yI))))))))))), hs65, .unit, hs66⟩ [l0.b K] (fun (x : ((Unit × (Bool × ((List q0d) × (Bool × (Int × (Bool × (Int × (Int × (Int × Int))))))))) × (Unit × ((List Int) × Unit)))) => f K x.1.2.1 x.1.2.2.1 x.1.2.2.2.1 x.1.2.2.2.2.1 x.1.2.2.2.2.2.1 x.1.2.2.2.2.2.2.1 x.1.2.2.2.2.2.2.2.1 x.1.2.2.2.2.2.2.2.2.1 x.1.2.2.2.2.2.2.2.2.2 x.2.2.1) (fun x r => ((), (), (), r, ())) fun (x : ((Unit × (Bool × ((List q0d) × (Bool × (Int × (Bool × (Int × (Int × (Int × Int))))))))) × (Unit × ((List Int) × Unit)))) => by
  refine Eq.trans ?_ q0b.symm
  rw [f]
  try simp only [el]
  kernel_rfl
end q6g
namespace q4v
noncomputable def X (K : Nat) : Fx M 0 := { hmx := mxd, nt := 22, cs := [q5g.e K] }
noncomputable def l0.f (K : Nat) : Nat → Int → Int → List Int → Option (List Int)
  | 0, _, _, _ => none
  | k + 1, a0, a1, a2 => bif decide (a1 < a0) then bif (a2.length + [a1].length).ble (1000000 : Nat) then l0.f K k a0 (IntKind.i64.wrap (a1 + (1 : Int))) (a2 ++ [a1]) else none else some a2
noncomputable def l0.b (K : Nat) : Lp M 0 := q2d (X K) 5 22 0 (q0o Tryz.f40 0) ⟨[5, 12, 13], (.cons (.own 0) (.cons (.ty yI) (.ty yI))), hs1d⟩ ⟨[5], (.own 0), hs1d⟩ K [] (fun k x => l0.f K k x.1.2.1 x.1.2.2 x.2.1) (fun x r => ((), r, ())) fun k x => by
  rw [q0b, l0.f]
  try simp only [el]
  kernel_rfl
noncomputable def f (K : Nat) (a3 : List q1k) (a4 : Bool) : Option (List Int) := bif a4 then q5g.f K a3 else l0.f K K (↑a3.length : Int) (0 : Int) []
noncomputable def e (K : Nat) : En M := fnE (X K) 40 Tryz.func40 ⟨(.cons (.agg (.cons (.ty .str) (.cons (.ty yI) (.cons (.ty yI) (.ty (.slice q3f)))))) (.ty .bool)), [], sh34, []⟩ [l0.b K] (fun (x : (((ByteArray × (Int × (Int × (List q1k)))) × Bool) × Unit)) => f K x.1.1.2.2.2 x.1.2) (fun x r => (r, ())) fun (x : (((ByteArray × (Int × (Int × (List q1k)))) × Bool) × Unit)) => by
  refine Eq.trans ?_ q0b.symm
  rw [f]
  try simp only [el]
  kernel_rfl
end q4v
namespace q6m
noncomputable def X (K : Nat) : Fx M 0 := { hmx := mxd, nt := 33, cs := [] }
noncomputable def l0.f (K : Nat) : Nat → List Int → Int → Int → List Int → Option (List Int)
  | 0, _, _, _, _ => none
  | k + 1, a0, a1, a2, a3 => bif decide (a2 < a1) then bif decide ((0 : Int) ≤ a2) && true then a0[a2.toNat]?.bind fun t => bif decide ((0 : Int) ≤ IntKind.i64.wrap ((1 : Int) + IntKind.i64.wrap (Int.tdiv t (8 : Int)))) then bif (IntKind.i64.wrap ((1 : Int) + IntKind.i64.wrap (Int.tdiv t (8 : Int)))).toNat.blt a3.length then a3[(IntKind.i64.wrap ((1 : Int) + IntKind.i64.wrap (Int.tdiv t (8 : Int)))).toNat]?.bind fun t_1 => bif decide (Int.tmod t (8 : Int) < (0 : Int)) then none else bif decide ((0 : Int) ≤ IntKind.i64.wrap ((1 : Int) + IntKind.i64.wrap (Int.tdiv t (8 : Int)))) then bif (IntKind.i64.wrap ((1 : Int) + IntKind.i64.wrap (Int.tdiv t (8 : Int)))).toNat.blt a3.length then a3[(IntKind.i64.wrap ((1 : Int) + IntKind.i64.wrap (Int.tdiv t (8 : Int)))).toNat]?.bind fun t_2 => l0.f K k a0 a1 (IntKind.i64.wrap (a2 + (1 : Int))) (a3.set (IntKind.i64.wrap ((1 : Int) + IntKind.i64.wrap (Int.tdiv t (8 : Int)))).toNat (IntKind.u8.wrap (↑(BitVec.ofInt (8 : Nat) t_1 ||| BitVec.ofInt (8 : Nat) (IntKind.u8.wrap ((1 : Int) * (2 : Int) ^ min (Int.tmod t (8 : Int)).toNat (8 : Nat)))).toNat : Int))) else none else none else none else none else none else some a3
noncomputable def l0.b (K : Nat) : Lp M 0 := q2d (X K) 3 33 0 (q0o Tryz.f201 0) ⟨[5, 14, 15, 16], sh99, [.list 5 (.int .u8) []]⟩ ⟨[5], (.own 0), [.list 5 (.int .u8) []]⟩ K [] (fun k x => l0.f K k x.1.2.1 x.1.2.2.1 x.1.2.2.2 x.2.1) (fun x r => ((), r, ())) fun k x => by
  rw [q0b, l0.f]
  try simp only [el]
  kernel_rfl
noncomputable def f (K : Nat) (a0 : Int) (a1 : List Int) : Option (List Int) := bif decide ((0 : Int) ≤ IntKind.i64.wrap ((1 : Int) + IntKind.i64.wrap ((IntKind.i64.wrap (IntKind.i64.wrap (a0 + (8 : Int)) - (1 : Int))).tdiv (8 : Int)))) && decide (IntKind.i64.wrap ((1 : Int) + IntKind.i64.wrap ((IntKind.i64.wrap (IntKind.i64.wrap (a0 + (8 : Int)) - (1 : Int))).tdiv (8 : Int))) ≤ (1000000 : Int)) && IntKind.i64.wrap ((1 : Int) + IntKind.i64.wrap ((IntKind.i64.wrap (IntKind.i64.wrap (a0 + (8 : Int)) - (1 : Int))).tdiv (8 : Int))) == IntKind.i64.wrap ((1 : Int) + IntKind.i64.wrap ((IntKind.i64.wrap (IntKind.i64.wrap (a0 + (8 : Int)) - (1 : Int))).tdiv (8 : Int))) && true && true && true then l0.f K K a1 (↑a1.length : Int) (0 : Int) (List.replicate (IntKind.i64.wrap ((1 : Int) + IntKind.i64.wrap ((IntKind.i64.wrap (IntKind.i64.wrap (a0 + (8 : Int)) - (1 : Int))).tdiv (8 : Int)))).toNat (0 : Int)) else none
noncomputable def e (K : Nat) : En M := fnE (X K) 201 Tryz.func201 ⟨sh1a, [], sh69, []⟩ [l0.b K] (fun x => f K x.1.1 x.1.2) (fun x r => (r, ())) fun x => by
  rw [q0b, f]
  try simp only [el]
  kernel_rfl
end q6m
namespace q7l
noncomputable def X (K : Nat) : Fx M 0 := { hmx := mxd, nt := 32, cs := [q5w.e K, q0v.e K, q0i.e K, q13.e K] }
noncomputable def l0.f (K : Nat) : Nat → Int → List Int → Int → Int → List Int → Option (List Int)
  | 0, _, _, _, _, _ => none
  | k + 1, a0, a1, a2, a3, a4 => bif decide (a3 < a2) then bif decide ((0 : Int) ≤ a3) && true then a1[a3.toNat]?.bind fun t => (q0i.f K (IntKind.u64.wrap (IntKind.i64.wrap (t - a0))) a4).bind fun t_1 => l0.f K k (IntKind.i64.wrap (t + (1 : Int))) a1 a2 (IntKind.i64.wrap (a3 + (1 : Int))) t_1 else none else some a4
noncomputable def l0.b (K : Nat) : Lp M 0 := q2d (X K) 6 32 0 (q0o Tryz.f202 0) ⟨[3, 4, 15, 16, 17], (.cons (.ptr 0 0) (.cons (.ty yI) (.cons (.ty (.slice yI)) (.cons (.ty yI) (.ty yI))))), hs65⟩ ⟨[3], (.ptr 0 0), hs65⟩ K [] (fun k x => l0.f K k x.1.2.1 x.1.2.2.1 x.1.2.2.2.1 x.1.2.2.2.2 x.2.2.1) (fun x r => ((), (), r, ())) fun k x => by
  rw [q0b, l0.f]
  try simp only [el]
  kernel_rfl
noncomputable def f (K : Nat) (a0 : List Int) : Option (List Int) := (q5w.f K).bind fun t => (q0v.f K (1 : Int) t).bind fun t => (q0i.f K (IntKind.u64.wrap (↑a0.length : Int)) t).bind fun t => (l0.f K K (0 : Int) a0 (↑a0.length : Int) (0 : Int) t).bind fun t => q13.f K t
noncomputable def e (K : Nat) : En M := fnE (X K) 202 Tryz.func202 ⟨sh34, [], sh69, []⟩ [l0.b K] (fun x => f K x.1) (fun x r => (r, ())) fun x => by
  rw [q0b, f]
  try simp only [el]
  kernel_rfl
end q7l
namespace q6u
noncomputable def X (K : Nat) : Fx M 0 := { hmx := mxd, nt := 48, cs := [], cp := [(6, [.bool], [32])] }
noncomputable def l0.f (K : Nat) : Nat → List Int → Int → Int → List q97 → Option (List q97)
  | 0, _, _, _, _ => none
  | k + 1, a0, a1, a2, a3 => bif decide (a2 < a1) then bif decide ((0 : Int) ≤ a2) && true then a0[a2.toNat]?.bind fun t => q1c (bif decide (IntKind.i64.wrap ((↑a3.length : Int) - (1 : Int)) ≥ (0 : Int)) then bif decide ((0 : Int) ≤ IntKind.i64.wrap ((↑a3.length : Int) - (1 : Int))) then bif (IntKind.i64.wrap ((↑a3.length : Int) - (1 : Int))).toNat.blt a3.length then a3[(IntKind.i64.wrap ((↑a3.length : Int) - (1 : Int))).toNat]?.bind fun t_1 => bif decide ((0 : Int) ≤ IntKind.i64.wrap ((↑a3.length : Int) - (1 : Int))) then bif (IntKind.i64.wrap ((↑a3.length : Int) - (1 : Int))).toNat.blt a3.length then a3[(IntKind.i64.wrap ((↑a3.length : Int) - (1 : Int))).toNat]?.bind fun t_2 => some (IntKind.i64.wrap (t_1.1 + t_2.2) == t) else none else none else none else none else some false) fun t_1 => bif t_1 then bif decide ((0 : Int) ≤ IntKind.i64.wrap ((↑a3.length : Int) - (1 : Int))) then bif (IntKind.i64.wrap ((↑a3.length : Int) - (1 : Int))).toNat.blt a3.length then a3[(IntKind.i64.wrap ((↑a3.length : Int) - (1 : Int))).toNat]?.bind fun t => bif decide ((0 : Int) ≤ IntKind.i64.wrap ((↑a3.length : Int) - (1 : Int))) then bif (IntKind.i64.wrap ((↑a3.length : Int) - (1 : Int))).toNat.blt a3.length then a3[(IntKind.i64.wrap ((↑a3.length : Int) - (1 : Int))).toNat]?.bind fun t_2 => l0.f K k a0 a1 (IntKind.i64.wrap (a2 + (1 : Int))) (a3.set (IntKind.i64.wrap ((↑a3.length : Int) - (1 : Int))).toNat (t_2.1, IntKind.i64.wrap (t.2 + (1 : Int)))) else none else none else none else none else bif (a3.length + [(t, (1 : Int))].length).ble (1000000 : Nat) then l0.f K k a0 a1 (IntKind.i64.wrap (a2 + (1 : Int))) (a3 ++ [(t, (1 : Int))]) else none else none else some a3
noncomputable def l0.b (K : Nat) : Lp M 0 := q2d (X K) 3 48 0 (q0o Tryz.f215 0) ⟨[3, 7, 8, 9], sh99, [.list 367 z4f []]⟩ ⟨[3], (.own 0), [.list 367 z4f []]⟩ K [] (fun k x => l0.f K k x.1.2.1 x.1.2.2.1 x.1.2.2.2 x.2.1) (fun x r => ((), r, ())) fun k x => by
  rw [q0b, l0.f]
  try simp only [el]
  kernel_rfl
noncomputable def f (K : Nat) (a0 : List Int) : Option (List q97) := l0.f K K a0 (↑a0.length : Int) (0 : Int) []
noncomputable def e (K : Nat) : En M := fnE (X K) 215 Tryz.func215 ⟨sh34, [], (.ty (.slice z4f)), []⟩ [l0.b K] (fun x => f K x.1) (fun x r => (r, ())) fun x => by
  rw [q0b, f]
  try simp only [el]
  kernel_rfl
end q6u
namespace q7q
noncomputable def X (K : Nat) : Fx M 0 := { hmx := mxd, nt := 46, cs := [q6u.e K, q5w.e K, q0v.e K, q0i.e K, q13.e K] }
noncomputable def l0.f (K : Nat) : Nat → Int → List q97 → Int → Int → List Int → Option (List Int)
  | 0, _, _, _, _, _ => none
  | k + 1, a0, a1, a2, a3, a4 => bif decide (a3 < a2) then bif decide ((0 : Int) ≤ a3) && true then a1[a3.toNat]?.bind fun t => (q0i.f K (IntKind.u64.wrap (IntKind.i64.wrap (t.1 - a0))) a4).bind fun t_1 => (q0i.f K (IntKind.u64.wrap (IntKind.i64.wrap (t.2 - (1 : Int)))) t_1).bind fun t_2 => l0.f K k (IntKind.i64.wrap (IntKind.i64.wrap (t.1 + t.2) + (1 : Int))) a1 a2 (IntKind.i64.wrap (a3 + (1 : Int))) t_2 else none else some a4
noncomputable def l0.b (K : Nat) : Lp M 0 := q2d (X K) 7 46 0 (q0o Tryz.f203 0) ⟨[4, 5, 18, 19, 20], (.cons (.ptr 0 0) (.cons (.ty yI) (.cons (.ty (.slice z4f)) (.cons (.ty yI) (.ty yI))))), hs65⟩ ⟨[4], (.ptr 0 0), hs65⟩ K [] (fun k x => l0.f K k x.1.2.1 x.1.2.2.1 x.1.2.2.2.1 x.1.2.2.2.2 x.2.2.1) (fun x r => ((), (), r, ())) fun k x => by
  rw [q0b, l0.f]
  try simp only [el]
  kernel_rfl
noncomputable def f (K : Nat) (a0 : List Int) : Option (List Int) := (q6u.f K a0).bind fun t => (q5w.f K).bind fun t_1 => (q0v.f K (2 : Int) t_1).bind fun t_2 => (q0i.f K (IntKind.u64.wrap (↑t.length : Int)) t_2).bind fun t_3 => (l0.f K K (0 : Int) t (↑t.length : Int) (0 : Int) t_3).bind fun t => q13.f K t
noncomputable def e (K : Nat) : En M := fnE (X K) 203 Tryz.func203 ⟨sh34, [], sh69, []⟩ [l0.b K] (fun x => f K x.1) (fun x r => (r, ())) fun x => by
  rw [q0b, f]
  try simp only [el]
  kernel_rfl
end q7q
namespace q5q
noncomputable def f (K : Nat) (a0 : Int) (a1 : List Int) (a2 : Int) : Option (List Int) := bif a2 == (0 : Int) then q6m.f K a0 a1 else bif a2 == (1 : Int) then q7l.f K a1 else bif a2 == (2 : Int) then q7q.f K a1 else some []
noncomputable def e (K : Nat) : En M := fnE (m := 0) { hmx := mxd, nt := 21, cs := [q6m.e K, q7l.e K, q7q.e K] } 152 Tryz.func152 ⟨(.cons (.ty yI) (.cons (.ty (.slice yI)) (.ty yI))), [], sh69, []⟩ [] (fun x => f K x.1.1 x.1.2.1 x.1.2.2) (fun x r => (r, ())) fun x => by
  rw [q0b, f]
  try simp only [el]
  kernel_rfl
end q5q
namespace q6t
noncomputable def X (K : Nat) : Fx M 0 := { hmx := mxd, nt := 30, cs := [q38.e K, q5q.e K] }
noncomputable def l0.f (K : Nat) : Nat → Int → List Int → Int → Int → Int → Int → Option (Int)
  | 0, _, _, _, _, _, _ => none
  | k + 1, a0, a1, a2, a3, a4, a5 => bif decide (a5 < (2 : Int)) then bif decide ((0 : Int) ≤ a5) then bif a5.toNat.blt (2 : Nat) then bif a5.toNat.beq (nat_lit 1) then (q5q.f K a0 a1 a4).bind fun t => (q5q.f K a0 a1 a2).bind fun t_1 => bif decide ((↑t.length : Int) < (↑t_1.length : Int)) then l0.f K k a0 a1 a4 a3 a4 (IntKind.i64.wrap (a5 + (1 : Int))) else l0.f K k a0 a1 a2 a3 a4 (IntKind.i64.wrap (a5 + (1 : Int))) else bif a5.toNat.beq (nat_lit 0) then (q5q.f K a0 a1 a3).bind fun t => (q5q.f K a0 a1 a2).bind fun t_1 => bif decide ((↑t.length : Int) < (↑t_1.length : Int)) then l0.f K k a0 a1 a3 a3 a4 (IntKind.i64.wrap (a5 + (1 : Int))) else l0.f K k a0 a1 a2 a3 a4 (IntKind.i64.wrap (a5 + (1 : Int))) else none else none else none else some a2
noncomputable def l0.b (K : Nat) : Lp M 0 := q2d (X K) 5 30 0 (q0o Tryz.f153 0) ⟨[0, 1, 5, 12, 13], (.cons (.ty yI) (.cons (.ty (.slice yI)) (.cons (.ty yI) (.cons (.agg (.cons (.ty yI) (.ty yI))) (.ty yI))))), []⟩ ⟨[5], (.ty yI), []⟩ K [] (fun k x => l0.f K k x.1.1 x.1.2.1 x.1.2.2.1 x.1.2.2.2.1.1 x.1.2.2.2.1.2 x.1.2.2.2.2) (fun x r => (r, ())) fun k x => by
  rw [q0b, l0.f]
  try simp only [el]
  kernel_rfl
noncomputable def f (K : Nat) (a0 : Int) (a1 : List Int) : Option (Int) := (q38.f K a0 a1).bind fun t => bif !t then some (-1 : Int) else l0.f K K a0 a1 (0 : Int) (1 : Int) (2 : Int) (0 : Int)
noncomputable def e (K : Nat) : En M := fnE (X K) 153 Tryz.func153 ⟨sh1a, [], (.ty yI), []⟩ [l0.b K] (fun x => f K x.1.1 x.1.2) (fun x r => (r, ())) fun x => by
  rw [q0b, f]
  try simp only [el]
  kernel_rfl
end q6t
namespace q74
noncomputable def f (K : Nat) (a0 : Int) (a1 : List Int) (a2 : List Int) : Option (Err × List Int) := (q38.f K a0 a1).bind fun t => bif !t then some (Err.no (1 : Int), a2) else (q6t.f K a0 a1).bind fun t => (q5q.f K a0 a1 t).bind fun t => (q3l.f K t a2).bind fun t => some (Err.nil, t)
noncomputable def e (K : Nat) : En M := fnE (m := 2) { hmx := mxd, nt := 20, cs := [q38.e K, q6t.e K, q5q.e K, q3l.e K] } 89 Tryz.func89 ⟨(.cons (.ptr 0 0) (.cons (.ty yI) (.ty (.slice yI)))), hs65, (.ty .err), hs66⟩ [] (fun x => f K x.1.2.1 x.1.2.2 x.2.2.1) (fun x r => (r.1, (), (), r.2, ())) fun x => by
  rw [q0b, f]
  try simp only [el]
  kernel_rfl
end q74
namespace q4d
noncomputable def X (K : Nat) : Fx M 2 := { hmx := mxd, nt := 50, cs := [q0v.e K, q5e.e K, q74.e K] }
noncomputable def l1.f (K : Nat) : Nat → Int → List (List Int) → Int → Int → List Int → Option (List Int)
  | 0, _, _, _, _, _ => none
  | k + 1, a1, a2, a3, a4, a9 => bif decide (a4 < a3) then bif decide ((0 : Int) ≤ a4) && true then a2[a4.toNat]?.bind fun t => (q74.f K a1 t a9).bind fun t => l1.f K k a1 a2 a3 (IntKind.i64.wrap (a4 + (1 : Int))) t.2 else none else some a9
noncomputable def l1.b (K : Nat) : Lp M 2 := q2d (X K) 10 50 2 (q0o Tryz.f41 1) ⟨[0, 2, 3, 5, 34, 35, 36], (.cons (.ptr 0 0) (.cons (.ty yI) (.cons (.ty yI) (.cons (.ptr 2 0) (.cons (.ty (.slice (.slice yI))) (.cons (.ty yI) (.ty yI))))))), hs9a⟩ ⟨[0, 2, 5], (.cons (.ptr 0 0) (.cons (.ty yI) (.ptr 2 0))), hs9a⟩ K [] (fun k (x : ((Unit × (Int × (Int × (Unit × ((List (List Int)) × (Int × Int)))))) × (Unit × (Unit × ((Bool × ((List q0d) × ((List (List Int)) × (List Int)))) × ((List Int) × Unit)))))) => l1.f K k x.1.2.2.1 x.1.2.2.2.2.1 x.1.2.2.2.2.2.1 x.1.2.2.2.2.2.2 x.2.2.2.2.1) (fun x r => (((), x.1.2.1, ()), (), (), x.2.2.2.1, r, ())) fun k (x : ((Unit × (Int × (Int × (Unit × ((List (List Int)) × (Int × Int)))))) × (Unit × (Unit × ((Bool × ((List q0d) × ((List (List Int)) × (List Int)))) × ((List Int) × Unit)))))) => by
  refine Eq.trans ?_ q0b.symm
  rw [l1.f]
  try simp only [el]
  kernel_rfl
noncomputable def l0.f (K : Nat) : Nat → List q0d → Int → Int → List Int → Option (List Int)
  | 0, _, _, _, _ => none
  | k + 1, a2, a3, a4, a9 => bif decide (a4 < a3) then bif decide ((0 : Int) ≤ a4) && true then a2[a4.toNat]?.bind fun t => (q5e.f K t.1 t.2.1.1 t.2.1.2 t.2.2.1.1 t.2.2.1.2 t.2.2.2 a9).bind fun t => l0.f K k a2 a3 (IntKind.i64.wrap (a4 + (1 : Int))) t.2 else none else some a9
noncomputable def l0.b (K : Nat) : Lp M 2 := q2d (X K) 5 50 0 (q0o Tryz.f41 0) ⟨[0, 2, 3, 5, 22, 23, 24], (.cons (.ptr 0 0) (.cons (.ty yI) (.cons (.ty yI) (.cons (.ptr 2 0) (.cons (.ty (.slice q02)) (.cons (.ty yI) (.ty yI))))))), hs9a⟩ ⟨[0, 2, 3, 5], (.cons (.ptr 0 0) (.cons (.ty yI) (.cons (.ty yI) (.ptr 2 0)))), hs9a⟩ K [] (fun k (x : ((Unit × (Int × (Int × (Unit × ((List q0d) × (Int × Int)))))) × (Unit × (Unit × ((Bool × ((List q0d) × ((List (List Int)) × (List Int)))) × ((List Int) × Unit)))))) => l0.f K k x.1.2.2.2.2.1 x.1.2.2.2.2.2.1 x.1.2.2.2.2.2.2 x.2.2.2.2.1) (fun x r => (((), x.1.2.1, x.1.2.2.1, ()), (), (), x.2.2.2.1, r, ())) fun k (x : ((Unit × (Int × (Int × (Unit × ((List q0d) × (Int × Int)))))) × (Unit × (Unit × ((Bool × ((List q0d) × ((List (List Int)) × (List Int)))) × ((List Int) × Unit)))))) => by
  refine Eq.trans ?_ q0b.symm
  rw [l0.f]
  try simp only [el]
  kernel_rfl
noncomputable def f (K : Nat) (a0 : Bool) (a1 : List q0d) (a2 : List (List Int)) (a3 : List Int) (a4 : Int) (a5 : Int) (a6 : List Int) : Option (List Int) := bif !a0 then (q0v.f K (0 : Int) a6).bind fun t => (q74.f K a4 a3 t).bind fun t => some t.2 else (q0v.f K (1 : Int) a6).bind fun t => (l0.f K K a1 (↑a1.length : Int) (0 : Int) t).bind fun t => (l1.f K K a5 a2 (↑a2.length : Int) (0 : Int) t).bind fun t => (q74.f K a4 a3 t).bind fun t => some t.2
noncomputable def e (K : Nat) : En M := fnE (X K) 41 Tryz.func41 ⟨(.cons (.ptr 0 0) (.cons (.agg (.cons (.ty .bool) (.cons (.ty (.slice q02)) (.cons (.ty (.slice (.slice yI))) (.ty (.slice yI)))))) (.cons (.ty yI) (.ty yI)))), hs65, .unit, hs66⟩ [l0.b K, l1.b K] (fun (x : ((Unit × ((Bool × ((List q0d) × ((List (List Int)) × (List Int)))) × (Int × Int))) × (Unit × ((List Int) × Unit)))) => f K x.1.2.1.1 x.1.2.1.2.1 x.1.2.1.2.2.1 x.1.2.1.2.2.2 x.1.2.2.1 x.1.2.2.2 x.2.2.1) (fun x r => ((), (), (), r, ())) fun (x : ((Unit × ((Bool × ((List q0d) × ((List (List Int)) × (List Int)))) × (Int × Int))) × (Unit × ((List Int) × Unit)))) => by
  refine Eq.trans ?_ q0b.symm
  rw [f]
  try simp only [el]
  kernel_rfl
end q4d
namespace q18
noncomputable def X (K : Nat) : Fx M 0 := { hmx := mxd, nt := 120, cs := [q3j.e K, q3n.e K, q5w.e K, q7e.e K, q3l.e K, q0v.e K, q1y.e K, q5e.e K, q59.e K, q6g.e K, q4v.e K, q4d.e K, q13.e K] }
noncomputable def l3.f (K : Nat) : Nat → List LSum → Int → Int → List Int → Option (List Int)
  | 0, _, _, _, _ => none
  | k + 1, a0, a1, a2, a3 => bif decide (a2 < a1) then bif decide ((0 : Int) ≤ a2) && true then a0[a2.toNat]?.bind fun t => (q6g.f K t.1 t.2.1 t.2.2.1 t.2.2.2.1 t.2.2.2.2.1.1 t.2.2.2.2.1.2 t.2.2.2.2.2.1.1 t.2.2.2.2.2.1.2 t.2.2.2.2.2.2 a3).bind fun t => l3.f K k a0 a1 (IntKind.i64.wrap (a2 + (1 : Int))) t else none else some a3
noncomputable def l3.b (K : Nat) : Lp M 0 := q2d (X K) 32 120 6 (q0o Tryz.f10 3) ⟨[11, 108, 109, 110], sh97, hs65⟩ ⟨[11], (.ptr 0 0), hs65⟩ K [] (fun k x => l3.f K k x.1.2.1 x.1.2.2.1 x.1.2.2.2 x.2.2.1) (fun x r => ((), (), r, ())) fun k x => by
  rw [q0b, l3.f]
  try simp only [el]
  kernel_rfl
noncomputable def l2.f (K : Nat) : Nat → Int → Int → List Int → Int → Int → List q0t → List q0j → List Int → Option (List Int)
  | 0, _, _, _, _, _, _, _, _ => none
  | k + 1, a1, a2, a6, a7, a8, a10, a24, a26 => bif decide (a8 < a7) then bif decide ((0 : Int) ≤ a8) && true then a6[a8.toNat]?.bind fun t => bif decide ((0 : Int) ≤ t) && true then a24[Int.toNat t]?.bind fun t => bif decide ((0 : Int) ≤ a2) && true then a10[a2.toNat]?.bind fun t_1 => (q4d.f K t.1.1 t.1.2.1 t.1.2.2 t.2 t_1.2.2.1 a1 a26).bind fun t => l2.f K k a1 a2 a6 a7 (IntKind.i64.wrap (a8 + (1 : Int))) a10 a24 t else none else none else none else some a26
noncomputable def l2.b (K : Nat) : Lp M 0 := q2d (X K) 25 120 4 (q0o Tryz.f10 2) ⟨[2, 3, 4, 11, 14, 15, 16, 17, 63, 64, 65, 81, 82, 83], (.cons (.ty .bool) (.cons (.ptr 0 0) (.cons (.ptr 1 0) (.cons (.ptr 2 0) (.cons (.ty yI) (.cons (.ty yI) (.cons (.ptr 3 0) (.cons (.ptr 4 0) (.cons (.ty (.slice q1r)) (.cons (.ty yI) (.cons (.ty yI) (.cons (.ty (.slice yI)) (.cons (.ty yI) (.ty yI)))))))))))))), [hh62, hh8a, .cells 213 0 (.own 5), .cells 83 0 sh2b, .cells 213 0 (.own 6), .list 5 (.int .u8) [], .list 5 (.int .u8) []]⟩ ⟨[2, 3, 4, 11, 14, 17, 63, 64, 65], (.cons (.ty .bool) (.cons (.ptr 0 0) (.cons (.ptr 1 0) (.cons (.ptr 2 0) (.cons (.ty yI) (.cons (.ptr 3 0) (.cons (.ty (.slice q1r)) (.cons (.ty yI) (.ty yI))))))))), [hh62, hh8a, .cells 213 0 (.own 4), .cells 213 0 (.own 5), .list 5 (.int .u8) [], .list 5 (.int .u8) []]⟩ K [] (fun k (x : ((Bool × (Unit × (Unit × (Unit × (Int × (Int × (Unit × (Unit × ((List q0l) × (Int × (Int × ((List Int) × (Int × Int))))))))))))) × (((List Int) × ((List q0t) × (List q0h))) × (((List q0d) × ((List q0l) × (List LSum))) × (Unit × ((Bool × ((List q0d) × (Bool × (Int × (Bool × (Int × (Int × (Int × (Int × (List q0j)))))))))) × (Unit × ((List Int) × ((List Int) × Unit))))))))) => l2.f K k x.1.2.2.2.2.1 x.1.2.2.2.2.2.1 x.1.2.2.2.2.2.2.2.2.2.2.2.1 x.1.2.2.2.2.2.2.2.2.2.2.2.2.1 x.1.2.2.2.2.2.2.2.2.2.2.2.2.2 x.2.1.2.1 x.2.2.2.2.1.2.2.2.2.2.2.2.2.2 x.2.2.2.2.2.2.2.1) (fun x r => ((x.1.1, (), (), (), x.1.2.2.2.2.1, (), x.1.2.2.2.2.2.2.2.2.1, x.1.2.2.2.2.2.2.2.2.2.1, x.1.2.2.2.2.2.2.2.2.2.2.1), x.2.1, x.2.2.1, (), (), x.2.2.2.2.2.2.1, r, ())) fun k (x : ((Bool × (Unit × (Unit × (Unit × (Int × (Int × (Unit × (Unit × ((List q0l) × (Int × (Int × ((List Int) × (Int × Int))))))))))))) × (((List Int) × ((List q0t) × (List q0h))) × (((List q0d) × ((List q0l) × (List LSum))) × (Unit × ((Bool × ((List q0d) × (Bool × (Int × (Bool × (Int × (Int × (Int × (Int × (List q0j)))))))))) × (Unit × ((List Int) × ((List Int) × Unit))))))))) => by
  refine Eq.trans ?_ q0b.symm
  rw [l2.f]
  try simp only [el]
  kernel_rfl
noncomputable def l1.f (K : Nat) : Nat → Bool → Int → List q0l → Int → Int → List q0t → List Int → Option (List Int)
  | 0, _, _, _, _, _, _, _ => none
  | k + 1, a0, a1, a2, a3, a4, a6, a11 => bif decide (a4 < a3) then bif decide ((0 : Int) ≤ a4) && true then a2[a4.toNat]?.bind fun t => (q5w.f K).bind fun t_1 => (q6g.f K t.1.1 t.1.2.1 t.1.2.2.1 t.1.2.2.2.1 t.1.2.2.2.2.1.1 t.1.2.2.2.2.1.2 t.1.2.2.2.2.2.1.1 t.1.2.2.2.2.2.1.2 t.1.2.2.2.2.2.2 t_1).bind fun t_2 => bif decide ((0 : Int) ≤ a4) && true then a6[a4.toNat]?.bind fun t_3 => (q4v.f K t_3.2.2.2 a0).bind fun t_4 => (l2.f K K a1 a4 t_4 (↑t_4.length : Int) (0 : Int) a6 t.2 t_2).bind fun t => (q13.f K t).bind fun t => (q1y.f K t a11).bind fun t => l1.f K k a0 a1 a2 a3 (IntKind.i64.wrap (a4 + (1 : Int))) a6 t else none else none else some a11
noncomputable def l1.b (K : Nat) : Lp M 0 := q2d (X K) 20 120 2 (q0o Tryz.f10 1) ⟨[2, 3, 4, 11, 14, 63, 64, 65], (.cons (.ty .bool) (.cons (.ptr 0 0) (.cons (.ptr 1 0) (.cons (.ptr 2 0) (.cons (.ty yI) (.cons (.ty (.slice q1r)) (.cons (.ty yI) (.ty yI)))))))), hs9b⟩ ⟨[4, 11], sh11, [hh8a, .cells 213 0 (.own 2), .list 5 (.int .u8) []]⟩ K [l2.b K] (fun k (x : ((Bool × (Unit × (Unit × (Unit × (Int × ((List q0l) × (Int × Int))))))) × (((List Int) × ((List q0t) × (List q0h))) × (((List q0d) × ((List q0l) × (List LSum))) × (Unit × ((List Int) × Unit)))))) => l1.f K k x.1.1 x.1.2.2.2.2.1 x.1.2.2.2.2.2.1 x.1.2.2.2.2.2.2.1 x.1.2.2.2.2.2.2.2 x.2.1.2.1 x.2.2.2.2.1) (fun x r => (((), ()), x.2.2.1, (), r, ())) fun k (x : ((Bool × (Unit × (Unit × (Unit × (Int × ((List q0l) × (Int × Int))))))) × (((List Int) × ((List q0t) × (List q0h))) × (((List q0d) × ((List q0l) × (List LSum))) × (Unit × ((List Int) × Unit)))))) => by
  refine Eq.trans ?_ q0b.symm
  rw [l1.f]
  try simp only [el]
  kernel_rfl
noncomputable def l0.f (K : Nat) : Nat → List q0d → Int → Int → List Int → Option (List Int)
  | 0, _, _, _, _ => none
  | k + 1, a1, a2, a3, a10 => bif decide (a3 < a2) then bif decide ((0 : Int) ≤ a3) && true then a1[a3.toNat]?.bind fun t => (q5e.f K t.1 t.2.1.1 t.2.1.2 t.2.2.1.1 t.2.2.1.2 t.2.2.2 a10).bind fun t => l0.f K k a1 a2 (IntKind.i64.wrap (a3 + (1 : Int))) t.2 else none else some a10
noncomputable def l0.b (K : Nat) : Lp M 0 := q2d (X K) 14 120 0 (q0o Tryz.f10 0) ⟨[2, 3, 4, 11, 50, 51, 52], (.cons (.ty .bool) (.cons (.ptr 0 0) (.cons (.ptr 1 0) (.cons (.ptr 2 0) (.cons (.ty (.slice q02)) (.cons (.ty yI) (.ty yI))))))), hs9b⟩ ⟨[2, 3, 4, 11], (.cons (.ty .bool) (.cons (.ptr 0 0) (.cons (.ptr 1 0) (.ptr 2 0)))), hs9b⟩ K [] (fun k (x : ((Bool × (Unit × (Unit × (Unit × ((List q0d) × (Int × Int)))))) × (((List Int) × ((List q0t) × (List q0h))) × (((List q0d) × ((List q0l) × (List LSum))) × (Unit × ((List Int) × Unit)))))) => l0.f K k x.1.2.2.2.2.1 x.1.2.2.2.2.2.1 x.1.2.2.2.2.2.2 x.2.2.2.2.1) (fun x r => ((x.1.1, (), (), ()), x.2.1, x.2.2.1, (), r, ())) fun k (x : ((Bool × (Unit × (Unit × (Unit × ((List q0d) × (Int × Int)))))) × (((List Int) × ((List q0t) × (List q0h))) × (((List q0d) × ((List q0l) × (List LSum))) × (Unit × ((List Int) × Unit)))))) => by
  refine Eq.trans ?_ q0b.symm
  rw [l0.f]
  try simp only [el]
  kernel_rfl
noncomputable def f (K : Nat) (a0 : List Int) (a1 : List q0t) (a2 : List q0h) (a3 : List q0d) (a4 : List q0l) (a5 : List LSum) (a6 : Bool) : Option (List Int × Err) := (q3j.f K a0 a1 a2 a3 a4 a5 a6).bind fun t => bif bif true then !t.isNil else t.isNil then some ([], t) else (q3n.f K a0 a1 a2).bind fun t => bif bif true then !t.2.isNil else t.2.isNil then some ([], t.2) else (q5w.f K).bind fun t_1 => (q7e.f K).bind fun t_2 => (q3l.f K t_2 t_1).bind fun t_3 => bif a6 then (q0v.f K (1 : Int) t_3).bind fun t_4 => (q1y.f K t.1 t_4).bind fun t => (l0.f K K a3 (↑a3.length : Int) (0 : Int) t).bind fun t => (q59.f K a1).bind fun t_5 => (l1.f K K a6 t_5 a4 (↑a4.length : Int) (0 : Int) a1 t).bind fun t => (l3.f K K a5 (↑a5.length : Int) (0 : Int) t).bind fun t => (q13.f K t).bind fun t => some (t, Err.nil) else (q0v.f K (0 : Int) t_3).bind fun t_4 => (q1y.f K t.1 t_4).bind fun t => (l0.f K K a3 (↑a3.length : Int) (0 : Int) t).bind fun t => (q59.f K a1).bind fun t_5 => (l1.f K K a6 t_5 a4 (↑a4.length : Int) (0 : Int) a1 t).bind fun t => (l3.f K K a5 (↑a5.length : Int) (0 : Int) t).bind fun t => (q13.f K t).bind fun t => some (t, Err.nil)
noncomputable def e (K : Nat) : En M := fnE (X K) 10 Tryz.func10 ⟨sh56, [], sh6a, []⟩ [l0.b K, l1.b K, l2.b K, l3.b K] (fun (x : ((((List Int) × ((List q0t) × (List q0h))) × (((List q0d) × ((List q0l) × (List LSum))) × Bool)) × Unit)) => f K x.1.1.1 x.1.1.2.1 x.1.1.2.2 x.1.2.1.1 x.1.2.1.2.1 x.1.2.1.2.2 x.1.2.2) (fun x r => ((r.1, r.2), ())) fun (x : ((((List Int) × ((List q0t) × (List q0h))) × (((List q0d) × ((List q0l) × (List LSum))) × Bool)) × Unit)) => by
  refine Eq.trans ?_ q0b.symm
  rw [f]
  try simp only [el]
  kernel_rfl
end q18
namespace q1i
noncomputable def f (K : Nat) (a0 : Err) (a1 : Err) : Option (Err) := bif bif false then !a1.isNil else a1.isNil then some a0 else some a1
noncomputable def e (K : Nat) : En M := fnE (m := 2) { hmx := mxd, nt := 13, cs := [] } 67 Tryz.func67 ⟨(.cons (.ptr 0 0) (.ty .err)), hs9d, .unit, hs9d⟩ [] (fun x => f K x.1.2 x.2.1.2) (fun x r => ((), ((), r), x.2.2)) fun x => by
  rw [q0b, f]
  try simp only [el]
  kernel_rfl
end q1i
namespace q3t
noncomputable def X (K : Nat) : Fx M 2 := { hmx := mxd, nt := 43, cs := [q1m.e K, q29.e K, q1i.e K, q1z.e K], cp := [(6, [.bool], [35])] }
noncomputable def f (K : Nat) (a0 : Int) (a1 : Err) (a2 : List Int) (a3 : Int) : Option (Int × Err × Int) := bif bif true then !a1.isNil else a1.isNil then some ((0 : Int), a1, a3) else (q1m.f K).bind fun t => (q29.f K a2 a3).bind fun t => (q1i.f K t.2.1 a1).bind fun t_1 => q1c (bif bif false then !t.2.1.isNil else t.2.1.isNil then some (decide (t.1 > a0)) else some false) fun t_2 => bif t_2 then (q1z.f K (Err.no (5 : Int)) [a3]).bind fun t_3 => (q1i.f K t_3 t_1).bind fun t_4 => some (t.1, t_4, t.2.2) else some (t.1, t_1, t.2.2)
noncomputable def e (K : Nat) : En M := fnE (X K) 69 Tryz.func69 ⟨(.cons (.ptr 0 0) (.ty (.int .u8))), hs9d, (.ty (.int .u8)), hs9d⟩ [] (fun x => f K x.1.2 x.2.1.2 x.2.2.1.1 x.2.2.1.2) (fun x r => (r.1, ((), r.2.1), (x.2.2.1.1, r.2.2), ())) fun x => by
  rw [q0b, f]
  try simp only [el]
  kernel_rfl
end q3t
namespace q5d
noncomputable def X (K : Nat) : Fx M 2 := { hmx := mxd, nt := 69, cs := [q7e.e K, q2a.e K, q1i.e K, q1z.e K, q3t.e K, q2l.e K, q8j.e K], cp := [(3, [.bool], [30])] }
noncomputable def f (K : Nat) (a0 : Err) (a1 : List Int) (a2 : Int) : Option (List Int × List q0t × List q0h × Bool × Err × Int) := (q7e.f K).bind fun t => (q2a.f K (↑t.length : Int) a1 a2).bind fun t => (q1i.f K t.2.1 a0).bind fun t_1 => q1c (bif bif false then !t.2.1.isNil else t.2.1.isNil then (q7e.f K).bind fun t_2 => some !(strOf t.1).toList == (strOf t_2).toList else some false) fun t_2 => bif t_2 then (q1z.f K (Err.no (3 : Int)) [(0 : Int)]).bind fun t_3 => (q1i.f K t_3 t_1).bind fun t_4 => (q3t.f K (1 : Int) t_4 a1 t.2.2).bind fun t => bif bif true then !t.2.1.isNil else t.2.1.isNil then some ([], [], [], false, t.2.1, t.2.2) else (q2l.f K a1 t.2.2).bind fun t_5 => bif bif true then !t_5.1.isNil else t_5.1.isNil then (q1i.f K t_5.1 t.2.1).bind fun t => some ([], [], [], false, t, t_5.2.1) else (q8j.f K t_5.2.2.1 t_5.2.2.2).bind fun t_6 => (q1i.f K t_6.2.2.2.1 t.2.1).bind fun t_7 => some (t_6.1, t_6.2.1, t_6.2.2.1, t.1 == (1 : Int), t_7, t_5.2.1) else (q3t.f K (1 : Int) t_1 a1 t.2.2).bind fun t => bif bif true then !t.2.1.isNil else t.2.1.isNil then some ([], [], [], false, t.2.1, t.2.2) else (q2l.f K a1 t.2.2).bind fun t_3 => bif bif true then !t_3.1.isNil else t_3.1.isNil then (q1i.f K t_3.1 t.2.1).bind fun t => some ([], [], [], false, t, t_3.2.1) else (q8j.f K t_3.2.2.1 t_3.2.2.2).bind fun t_4 => (q1i.f K t_4.2.2.2.1 t.2.1).bind fun t_5 => some (t_4.1, t_4.2.1, t_4.2.2.1, t.1 == (1 : Int), t_5, t_3.2.1)
noncomputable def e (K : Nat) : En M := fnE (X K) 18 Tryz.func18 ⟨(.ptr 0 0), hs9d, (.cons (.agg (.cons (.ty (.slice yI)) (.cons (.ty (.slice q30)) (.ty (.slice q2f))))) (.ty .bool)), hs9d⟩ [] (fun x => f K x.2.1.2 x.2.2.1.1 x.2.2.1.2) (fun x r => (((r.1, r.2.1, r.2.2.1), r.2.2.2.1), ((), r.2.2.2.2.1), (x.2.2.1.1, r.2.2.2.2.2), ())) fun x => by
  rw [q0b, f]
  try simp only [el]
  kernel_rfl
end q5d
namespace q4a
noncomputable def f (K : Nat) : Option (Unit) := some ()
noncomputable def e (K : Nat) : En M := fnE (m := 1) { hmx := mxd, nt := 15, cs := [] } 128 Tryz.func128 ⟨(.ptr 0 0), [hh6d], (.ptr 1 0), [hh6d, hh6d]⟩ [] (fun x => f K) (fun x r => ((), x.2.1, x.2)) fun x => by
  rw [q0b, f]
  try simp only [el]
  kernel_rfl
end q4a
namespace q7v
noncomputable def f (K : Nat) : Option (Int × Int) := some ((-9223372036854775808 : Int), (9223372036854775807 : Int))
noncomputable def e (K : Nat) : En M := fnE (m := 0) { hmx := mxd, nt := 2, cs := [] } 178 Tryz.func178 ⟨.unit, [], sh35, []⟩ [] (fun x => f K) (fun x r => ((r.1, r.2), ())) fun x => by
  rw [q0b, f]
  try simp only [el]
  kernel_rfl
end q7v
namespace q43
noncomputable def f (K : Nat) : Option (Bool) := some true
noncomputable def e (K : Nat) : En M := fnE (m := 0) { hmx := mxd, nt := 5, cs := [] } 180 Tryz.func180 ⟨(.ty yI), [], sh44, []⟩ [] (fun x => f K) (fun x r => ((r, x.1), ())) fun x => by
  rw [q0b, f]
  try simp only [el]
  kernel_rfl
end q43
namespace q2v
noncomputable def sig : Sig := ⟨(.ptr 0 0), [.cells 167 0 (.cons (.ty (.slice (.int .u8))) (.ty yI))], (.cons (.agg (.cons (.ty yI) (.cons (.ty .bool) (.cons (.ty yI) (.cons (.ty yI) (.cons (.ty yI) (.ty yI))))))) (.ty .err)), [.cells 167 0 (.cons (.ty (.slice (.int .u8))) (.ty yI))]⟩
noncomputable def C {α : Type} (K : Nat) : q2x α := j3z (M := M) [q1m.e K, q29.e K, q7v.e K, q73.e K, q6c.e K, q1z.e K, q2u.e K, q43.e K, q0z.e K]
noncomputable def CP {α : Type} (K : Nat) : q9l α := (j4g 6 (rpCut M q1c [.bool] [40] (C K) (eqBy M.P)) (j4g 19 (rpCut M q1c [.bool] [108] (C K) (eqBy M.P)) q8h))
theorem CP_ok {α : Type} (K : Nat) : q8p (α := α) M 1 (CP K) := (z31 (z7h z0v (q71 _) mxd) (z31 (z7h z0v (q71 _) mxd) q8f))
noncomputable def f (K : Nat) (a0 : List Int) (a1 : Int) : Option (Int × Bool × Int × Int × Int × Int × Err × Int) := (q1m.f K).bind fun t =>
  (q29.f K a0 a1).bind fun t =>
    bif bif true then !t.2.1.isNil else t.2.1.isNil then some ((0 : Int), false, (0 : Int), (0 : Int), (0 : Int), (0 : Int), t.2.1, t.2.2)
    else
      (q7v.f K).bind fun t_1 =>
        q1c ((q73.f K (IntKind.i64.wrap (IntKind.u8.wrap (↑(BitVec.ofInt (8 : Nat) t.1 &&& BitVec.ofInt (8 : Nat) (7 : Int)).toNat : Int)))).bind fun t_2 => bif !t_2 then some true else (q6c.f K (IntKind.i64.wrap (IntKind.u8.wrap (↑(BitVec.ofInt (8 : Nat) (t.1.fdiv ((2 : Int) ^ (4 : Nat))) &&& BitVec.ofInt (8 : Nat) (3 : Int)).toNat : Int)))).bind fun t => some !t) fun t_2 =>
          bif t_2 then (q1z.f K (Err.no (13 : Int)) [a1]).bind fun t_3 => some ((0 : Int), false, (0 : Int), (0 : Int), (0 : Int), (0 : Int), t_3, t.2.2)
          else
            bif IntKind.u8.wrap (↑(BitVec.ofInt (8 : Nat) t.1 &&& BitVec.ofInt (8 : Nat) (8 : Int)).toNat : Int) == (0 : Int) then bif IntKind.u8.wrap (↑(BitVec.ofInt (8 : Nat) t.1 &&& BitVec.ofInt (8 : Nat) (64 : Int)).toNat : Int) == (0 : Int) then bif IntKind.u8.wrap (↑(BitVec.ofInt (8 : Nat) t.1 &&& BitVec.ofInt (8 : Nat) (128 : Int)).toNat : Int) == (0 : Int) then bif IntKind.u8.wrap (↑(BitVec.ofInt (8 : Nat) t.1 &&& BitVec.ofInt (8 : Nat) (8 : Int)).toNat : Int) != (0 : Int) then (q43.f K).bind fun t_3 => q1c (bif IntKind.u8.wrap (↑(BitVec.ofInt (8 : Nat) t.1 &&& BitVec.ofInt (8 : Nat) (64 : Int)).toNat : Int) != (0 : Int) then bif t_1.1 == (-9223372036854775808 : Int) then some true else bif IntKind.u8.wrap (↑(BitVec.ofInt (8 : Nat) t.1 &&& BitVec.ofInt (8 : Nat) (128 : Int)).toNat : Int) != (0 : Int) then bif t_1.2 == (9223372036854775807 : Int) then some true else (q0z.f K t_1.1 t_1.2).bind fun t => some !t else (q0z.f K t_1.1 t_1.2).bind fun t => some !t else bif IntKind.u8.wrap (↑(BitVec.ofInt (8 : Nat) t.1 &&& BitVec.ofInt (8 : Nat) (128 : Int)).toNat : Int) != (0 : Int) then bif t_1.2 == (9223372036854775807 : Int) then some true else (q0z.f K t_1.1 t_1.2).bind fun t => some !t else (q0z.f K t_1.1 t_1.2).bind fun t => some !t) fun t_4 => bif t_4 then (q1z.f K (Err.no (13 : Int)) [a1]).bind fun t_5 => some ((0 : Int), false, (0 : Int), (0 : Int), (0 : Int), (0 : Int), t_5, t.2.2) else some (IntKind.i64.wrap (IntKind.u8.wrap (↑(BitVec.ofInt (8 : Nat) t.1 &&& BitVec.ofInt (8 : Nat) (7 : Int)).toNat : Int)), t_3, (0 : Int), t_1.1, t_1.2, IntKind.i64.wrap (IntKind.u8.wrap (↑(BitVec.ofInt (8 : Nat) (t.1.fdiv ((2 : Int) ^ (4 : Nat))) &&& BitVec.ofInt (8 : Nat) (3 : Int)).toNat : Int)), Err.nil, t.2.2) else q1c (bif IntKind.u8.wrap (↑(BitVec.ofInt (8 : Nat) t.1 &&& BitVec.ofInt (8 : Nat) (64 : Int)).toNat : Int) != (0 : Int) then bif t_1.1 == (-9223372036854775808 : Int) then some true else bif IntKind.u8.wrap (↑(BitVec.ofInt (8 : Nat) t.1 &&& BitVec.ofInt (8 : Nat) (128 : Int)).toNat : Int) != (0 : Int) then bif t_1.2 == (9223372036854775807 : Int) then some true else (q0z.f K t_1.1 t_1.2).bind fun t => some !t else (q0z.f K t_1.1 t_1.2).bind fun t => some !t else bif IntKind.u8.wrap (↑(BitVec.ofInt (8 : Nat) t.1 &&& BitVec.ofInt (8 : Nat) (128 : Int)).toNat : Int) != (0 : Int) then bif t_1.2 == (9223372036854775807 : Int) then some true else (q0z.f K t_1.1 t_1.2).bind fun t => some !t else (q0z.f K t_1.1 t_1.2).bind fun t => some !t) fun t_3 => bif t_3 then (q1z.f K (Err.no (13 : Int)) [a1]).bind fun t_4 => some ((0 : Int), false, (0 : Int), (0 : Int), (0 : Int), (0 : Int), t_4, t.2.2) else some (IntKind.i64.wrap (IntKind.u8.wrap (↑(BitVec.ofInt (8 : Nat) t.1 &&& BitVec.ofInt (8 : Nat) (7 : Int)).toNat : Int)), false, (0 : Int), t_1.1, t_1.2, IntKind.i64.wrap (IntKind.u8.wrap (↑(BitVec.ofInt (8 : Nat) (t.1.fdiv ((2 : Int) ^ (4 : Nat))) &&& BitVec.ofInt (8 : Nat) (3 : Int)).toNat : Int)), Err.nil, t.2.2) else (q2u.f K a0 t.2.2).bind fun t_3 => bif bif true then !t_3.2.1.isNil else t_3.2.1.isNil then some ((0 : Int), false, (0 : Int), (0 : Int), (0 : Int), (0 : Int), t_3.2.1, t_3.2.2) else bif IntKind.u8.wrap (↑(BitVec.ofInt (8 : Nat) t.1 &&& BitVec.ofInt (8 : Nat) (8 : Int)).toNat : Int) != (0 : Int) then (q43.f K).bind fun t_4 => q1c (bif IntKind.u8.wrap (↑(BitVec.ofInt (8 : Nat) t.1 &&& BitVec.ofInt (8 : Nat) (64 : Int)).toNat : Int) != (0 : Int) then bif t_1.1 == (-9223372036854775808 : Int) then some true else bif IntKind.u8.wrap (↑(BitVec.ofInt (8 : Nat) t.1 &&& BitVec.ofInt (8 : Nat) (128 : Int)).toNat : Int) != (0 : Int) then bif t_3.1 == (9223372036854775807 : Int) then some true else (q0z.f K t_1.1 t_3.1).bind fun t => some !t else (q0z.f K t_1.1 t_3.1).bind fun t => some !t else bif IntKind.u8.wrap (↑(BitVec.ofInt (8 : Nat) t.1 &&& BitVec.ofInt (8 : Nat) (128 : Int)).toNat : Int) != (0 : Int) then bif t_3.1 == (9223372036854775807 : Int) then some true else (q0z.f K t_1.1 t_3.1).bind fun t => some !t else (q0z.f K t_1.1 t_3.1).bind fun t => some !t) fun t_5 => bif t_5 then (q1z.f K (Err.no (13 : Int)) [a1]).bind fun t => some ((0 : Int), false, (0 : Int), (0 : Int), (0 : Int), (0 : Int), t, t_3.2.2) else some (IntKind.i64.wrap (IntKind.u8.wrap (↑(BitVec.ofInt (8 : Nat) t.1 &&& BitVec.ofInt (8 : Nat) (7 : Int)).toNat : Int)), t_4, (0 : Int), t_1.1, t_3.1, IntKind.i64.wrap (IntKind.u8.wrap (↑(BitVec.ofInt (8 : Nat) (t.1.fdiv ((2 : Int) ^ (4 : Nat))) &&& BitVec.ofInt (8 : Nat) (3 : Int)).toNat : Int)), Err.nil, t_3.2.2) else q1c (bif IntKind.u8.wrap (↑(BitVec.ofInt (8 : Nat) t.1 &&& BitVec.ofInt (8 : Nat) (64 : Int)).toNat : Int) != (0 : Int) then bif t_1.1 == (-9223372036854775808 : Int) then some true else bif IntKind.u8.wrap (↑(BitVec.ofInt (8 : Nat) t.1 &&& BitVec.ofInt (8 : Nat) (128 : Int)).toNat : Int) != (0 : Int) then bif t_3.1 == (9223372036854775807 : Int) then some true else (q0z.f K t_1.1 t_3.1).bind fun t => some !t else (q0z.f K t_1.1 t_3.1).bind fun t => some !t else bif IntKind.u8.wrap (↑(BitVec.ofInt (8 : Nat) t.1 &&& BitVec.ofInt (8 : Nat) (128 : Int)).toNat : Int) != (0 : Int) then bif t_3.1 == (9223372036854775807 : Int) then some true else (q0z.f K t_1.1 t_3.1).bind fun t => some !t else (q0z.f K t_1.1 t_3.1).bind fun t => some !t) fun t_4 => bif t_4 then (q1z.f K (Err.no (13 : Int)) [a1]).bind fun t => some ((0 : Int), false, (0 : Int), (0 : Int), (0 : Int), (0 : Int), t, t_3.2.2) else some (IntKind.i64.wrap (IntKind.u8.wrap (↑(BitVec.ofInt (8 : Nat) t.1 &&& BitVec.ofInt (8 : Nat) (7 : Int)).toNat : Int)), false, (0 : Int), t_1.1, t_3.1, IntKind.i64.wrap (IntKind.u8.wrap (↑(BitVec.ofInt (8 : Nat) (t.1.fdiv ((2 : Int) ^ (4 : Nat))) &&& BitVec.ofInt (8 : Nat) (3 : Int)).toNat : Int)), Err.nil, t_3.2.2) else (q2u.f K a0 t.2.2).bind fun t_3 => bif bif true then !t_3.2.1.isNil else t_3.2.1.isNil then some ((0 : Int), false, (0 : Int), (0 : Int), (0 : Int), (0 : Int), t_3.2.1, t_3.2.2) else bif IntKind.u8.wrap (↑(BitVec.ofInt (8 : Nat) t.1 &&& BitVec.ofInt (8 : Nat) (128 : Int)).toNat : Int) == (0 : Int) then bif IntKind.u8.wrap (↑(BitVec.ofInt (8 : Nat) t.1 &&& BitVec.ofInt (8 : Nat) (8 : Int)).toNat : Int) != (0 : Int) then (q43.f K).bind fun t_4 => q1c (bif IntKind.u8.wrap (↑(BitVec.ofInt (8 : Nat) t.1 &&& BitVec.ofInt (8 : Nat) (64 : Int)).toNat : Int) != (0 : Int) then bif t_3.1 == (-9223372036854775808 : Int) then some true else bif IntKind.u8.wrap (↑(BitVec.ofInt (8 : Nat) t.1 &&& BitVec.ofInt (8 : Nat) (128 : Int)).toNat : Int) != (0 : Int) then bif t_1.2 == (9223372036854775807 : Int) then some true else (q0z.f K t_3.1 t_1.2).bind fun t => some !t else (q0z.f K t_3.1 t_1.2).bind fun t => some !t else bif IntKind.u8.wrap (↑(BitVec.ofInt (8 : Nat) t.1 &&& BitVec.ofInt (8 : Nat) (128 : Int)).toNat : Int) != (0 : Int) then bif t_1.2 == (9223372036854775807 : Int) then some true else (q0z.f K t_3.1 t_1.2).bind fun t => some !t else (q0z.f K t_3.1 t_1.2).bind fun t => some !t) fun t_5 => bif t_5 then (q1z.f K (Err.no (13 : Int)) [a1]).bind fun t => some ((0 : Int), false, (0 : Int), (0 : Int), (0 : Int), (0 : Int), t, t_3.2.2) else some (IntKind.i64.wrap (IntKind.u8.wrap (↑(BitVec.ofInt (8 : Nat) t.1 &&& BitVec.ofInt (8 : Nat) (7 : Int)).toNat : Int)), t_4, (0 : Int), t_3.1, t_1.2, IntKind.i64.wrap (IntKind.u8.wrap (↑(BitVec.ofInt (8 : Nat) (t.1.fdiv ((2 : Int) ^ (4 : Nat))) &&& BitVec.ofInt (8 : Nat) (3 : Int)).toNat : Int)), Err.nil, t_3.2.2) else q1c (bif IntKind.u8.wrap (↑(BitVec.ofInt (8 : Nat) t.1 &&& BitVec.ofInt (8 : Nat) (64 : Int)).toNat : Int) != (0 : Int) then bif t_3.1 == (-9223372036854775808 : Int) then some true else bif IntKind.u8.wrap (↑(BitVec.ofInt (8 : Nat) t.1 &&& BitVec.ofInt (8 : Nat) (128 : Int)).toNat : Int) != (0 : Int) then bif t_1.2 == (9223372036854775807 : Int) then some true else (q0z.f K t_3.1 t_1.2).bind fun t => some !t else (q0z.f K t_3.1 t_1.2).bind fun t => some !t else bif IntKind.u8.wrap (↑(BitVec.ofInt (8 : Nat) t.1 &&& BitVec.ofInt (8 : Nat) (128 : Int)).toNat : Int) != (0 : Int) then bif t_1.2 == (9223372036854775807 : Int) then some true else (q0z.f K t_3.1 t_1.2).bind fun t => some !t else (q0z.f K t_3.1 t_1.2).bind fun t => some !t) fun t_4 => bif t_4 then (q1z.f K (Err.no (13 : Int)) [a1]).bind fun t => some ((0 : Int), false, (0 : Int), (0 : Int), (0 : Int), (0 : Int), t, t_3.2.2) else some (IntKind.i64.wrap (IntKind.u8.wrap (↑(BitVec.ofInt (8 : Nat) t.1 &&& BitVec.ofInt (8 : Nat) (7 : Int)).toNat : Int)), false, (0 : Int), t_3.1, t_1.2, IntKind.i64.wrap (IntKind.u8.wrap (↑(BitVec.ofInt (8 : Nat) (t.1.fdiv ((2 : Int) ^ (4 : Nat))) &&& BitVec.ofInt (8 : Nat) (3 : Int)).toNat : Int)), Err.nil, t_3.2.2) else (q2u.f K a0 t_3.2.2).bind fun t_4 => bif bif true then !t_4.2.1.isNil else t_4.2.1.isNil then some ((0 : Int), false, (0 : Int), (0 : Int), (0 : Int), (0 : Int), t_4.2.1, t_4.2.2) else bif IntKind.u8.wrap (↑(BitVec.ofInt (8 : Nat) t.1 &&& BitVec.ofInt (8 : Nat) (8 : Int)).toNat : Int) != (0 : Int) then (q43.f K).bind fun t_5 => q1c (bif IntKind.u8.wrap (↑(BitVec.ofInt (8 : Nat) t.1 &&& BitVec.ofInt (8 : Nat) (64 : Int)).toNat : Int) != (0 : Int) then bif t_3.1 == (-9223372036854775808 : Int) then some true else bif IntKind.u8.wrap (↑(BitVec.ofInt (8 : Nat) t.1 &&& BitVec.ofInt (8 : Nat) (128 : Int)).toNat : Int) != (0 : Int) then bif t_4.1 == (9223372036854775807 : Int) then some true else (q0z.f K t_3.1 t_4.1).bind fun t => some !t else (q0z.f K t_3.1 t_4.1).bind fun t => some !t else bif IntKind.u8.wrap (↑(BitVec.ofInt (8 : Nat) t.1 &&& BitVec.ofInt (8 : Nat) (128 : Int)).toNat : Int) != (0 : Int) then bif t_4.1 == (9223372036854775807 : Int) then some true else (q0z.f K t_3.1 t_4.1).bind fun t => some !t else (q0z.f K t_3.1 t_4.1).bind fun t => some !t) fun t_6 => bif t_6 then (q1z.f K (Err.no (13 : Int)) [a1]).bind fun t => some ((0 : Int), false, (0 : Int), (0 : Int), (0 : Int), (0 : Int), t, t_4.2.2) else some (IntKind.i64.wrap (IntKind.u8.wrap (↑(BitVec.ofInt (8 : Nat) t.1 &&& BitVec.ofInt (8 : Nat) (7 : Int)).toNat : Int)), t_5, (0 : Int), t_3.1, t_4.1, IntKind.i64.wrap (IntKind.u8.wrap (↑(BitVec.ofInt (8 : Nat) (t.1.fdiv ((2 : Int) ^ (4 : Nat))) &&& BitVec.ofInt (8 : Nat) (3 : Int)).toNat : Int)), Err.nil, t_4.2.2) else q1c (bif IntKind.u8.wrap (↑(BitVec.ofInt (8 : Nat) t.1 &&& BitVec.ofInt (8 : Nat) (64 : Int)).toNat : Int) != (0 : Int) then bif t_3.1 == (-9223372036854775808 : Int) then some true else bif IntKind.u8.wrap (↑(BitVec.ofInt (8 : Nat) t.1 &&& BitVec.ofInt (8 : Nat) (128 : Int)).toNat : Int) != (0 : Int) then bif t_4.1 == (9223372036854775807 : Int) then some true else (q0z.f K t_3.1 t_4.1).bind fun t => some !t else (q0z.f K t_3.1 t_4.1).bind fun t => some !t else bif IntKind.u8.wrap (↑(BitVec.ofInt (8 : Nat) t.1 &&& BitVec.ofInt (8 : Nat) (128 : Int)).toNat : Int) != (0 : Int) then bif t_4.1 == (9223372036854775807 : Int) then some true else (q0z.f K t_3.1 t_4.1).bind fun t => some !t else (q0z.f K t_3.1 t_4.1).bind fun t => some !t) fun t_5 => bif t_5 then (q1z.f K (Err.no (13 : Int)) [a1]).bind fun t => some ((0 : Int), false, (0 : Int), (0 : Int), (0 : Int), (0 : Int), t, t_4.2.2) else some (IntKind.i64.wrap (IntKind.u8.wrap (↑(BitVec.ofInt (8 : Nat) t.1 &&& BitVec.ofInt (8 : Nat) (7 : Int)).toNat : Int)), false, (0 : Int), t_3.1, t_4.1, IntKind.i64.wrap (IntKind.u8.wrap (↑(BitVec.ofInt (8 : Nat) (t.1.fdiv ((2 : Int) ^ (4 : Nat))) &&& BitVec.ofInt (8 : Nat) (3 : Int)).toNat : Int)), Err.nil, t_4.2.2)
            else (q2u.f K a0 t.2.2).bind fun t_3 => bif bif true then !t_3.2.1.isNil else t_3.2.1.isNil then some ((0 : Int), false, (0 : Int), (0 : Int), (0 : Int), (0 : Int), t_3.2.1, t_3.2.2) else bif IntKind.u8.wrap (↑(BitVec.ofInt (8 : Nat) t.1 &&& BitVec.ofInt (8 : Nat) (64 : Int)).toNat : Int) == (0 : Int) then bif IntKind.u8.wrap (↑(BitVec.ofInt (8 : Nat) t.1 &&& BitVec.ofInt (8 : Nat) (128 : Int)).toNat : Int) == (0 : Int) then bif IntKind.u8.wrap (↑(BitVec.ofInt (8 : Nat) t.1 &&& BitVec.ofInt (8 : Nat) (8 : Int)).toNat : Int) != (0 : Int) then (q43.f K).bind fun t_4 => q1c (bif IntKind.u8.wrap (↑(BitVec.ofInt (8 : Nat) t.1 &&& BitVec.ofInt (8 : Nat) (64 : Int)).toNat : Int) != (0 : Int) then bif t_1.1 == (-9223372036854775808 : Int) then some true else bif IntKind.u8.wrap (↑(BitVec.ofInt (8 : Nat) t.1 &&& BitVec.ofInt (8 : Nat) (128 : Int)).toNat : Int) != (0 : Int) then bif t_1.2 == (9223372036854775807 : Int) then some true else (q0z.f K t_1.1 t_1.2).bind fun t => some !t else (q0z.f K t_1.1 t_1.2).bind fun t => some !t else bif IntKind.u8.wrap (↑(BitVec.ofInt (8 : Nat) t.1 &&& BitVec.ofInt (8 : Nat) (128 : Int)).toNat : Int) != (0 : Int) then bif t_1.2 == (9223372036854775807 : Int) then some true else (q0z.f K t_1.1 t_1.2).bind fun t => some !t else (q0z.f K t_1.1 t_1.2).bind fun t => some !t) fun t_5 => bif t_5 then (q1z.f K (Err.no (13 : Int)) [a1]).bind fun t => some ((0 : Int), false, (0 : Int), (0 : Int), (0 : Int), (0 : Int), t, t_3.2.2) else some (IntKind.i64.wrap (IntKind.u8.wrap (↑(BitVec.ofInt (8 : Nat) t.1 &&& BitVec.ofInt (8 : Nat) (7 : Int)).toNat : Int)), t_4, t_3.1, t_1.1, t_1.2, IntKind.i64.wrap (IntKind.u8.wrap (↑(BitVec.ofInt (8 : Nat) (t.1.fdiv ((2 : Int) ^ (4 : Nat))) &&& BitVec.ofInt (8 : Nat) (3 : Int)).toNat : Int)), Err.nil, t_3.2.2) else q1c (bif IntKind.u8.wrap (↑(BitVec.ofInt (8 : Nat) t.1 &&& BitVec.ofInt (8 : Nat) (64 : Int)).toNat : Int) != (0 : Int) then bif t_1.1 == (-9223372036854775808 : Int) then some true else bif IntKind.u8.wrap (↑(BitVec.ofInt (8 : Nat) t.1 &&& BitVec.ofInt (8 : Nat) (128 : Int)).toNat : Int) != (0 : Int) then bif t_1.2 == (9223372036854775807 : Int) then some true else (q0z.f K t_1.1 t_1.2).bind fun t => some !t else (q0z.f K t_1.1 t_1.2).bind fun t => some !t else bif IntKind.u8.wrap (↑(BitVec.ofInt (8 : Nat) t.1 &&& BitVec.ofInt (8 : Nat) (128 : Int)).toNat : Int) != (0 : Int) then bif t_1.2 == (9223372036854775807 : Int) then some true else (q0z.f K t_1.1 t_1.2).bind fun t => some !t else (q0z.f K t_1.1 t_1.2).bind fun t => some !t) fun t_4 => bif t_4 then (q1z.f K (Err.no (13 : Int)) [a1]).bind fun t => some ((0 : Int), false, (0 : Int), (0 : Int), (0 : Int), (0 : Int), t, t_3.2.2) else some (IntKind.i64.wrap (IntKind.u8.wrap (↑(BitVec.ofInt (8 : Nat) t.1 &&& BitVec.ofInt (8 : Nat) (7 : Int)).toNat : Int)), false, (0 : Int), t_1.1, t_1.2, IntKind.i64.wrap (IntKind.u8.wrap (↑(BitVec.ofInt (8 : Nat) (t.1.fdiv ((2 : Int) ^ (4 : Nat))) &&& BitVec.ofInt (8 : Nat) (3 : Int)).toNat : Int)), Err.nil, t_3.2.2) else (q2u.f K a0 t_3.2.2).bind fun t_4 => bif bif true then !t_4.2.1.isNil else t_4.2.1.isNil then some ((0 : Int), false, (0 : Int), (0 : Int), (0 : Int), (0 : Int), t_4.2.1, t_4.2.2) else bif IntKind.u8.wrap (↑(BitVec.ofInt (8 : Nat) t.1 &&& BitVec.ofInt (8 : Nat) (8 : Int)).toNat : Int) != (0 : Int) then (q43.f K).bind fun t_5 => q1c (bif IntKind.u8.wrap (↑(BitVec.ofInt (8 : Nat) t.1 &&& BitVec.ofInt (8 : Nat) (64 : Int)).toNat : Int) != (0 : Int) then bif t_1.1 == (-9223372036854775808 : Int) then some true else bif IntKind.u8.wrap (↑(BitVec.ofInt (8 : Nat) t.1 &&& BitVec.ofInt (8 : Nat) (128 : Int)).toNat : Int) != (0 : Int) then bif t_4.1 == (9223372036854775807 : Int) then some true else (q0z.f K t_1.1 t_4.1).bind fun t => some !t else (q0z.f K t_1.1 t_4.1).bind fun t => some !t else bif IntKind.u8.wrap (↑(BitVec.ofInt (8 : Nat) t.1 &&& BitVec.ofInt (8 : Nat) (128 : Int)).toNat : Int) != (0 : Int) then bif t_4.1 == (9223372036854775807 : Int) then some true else (q0z.f K t_1.1 t_4.1).bind fun t => some !t else (q0z.f K t_1.1 t_4.1).bind fun t => some !t) fun t_6 => bif t_6 then (q1z.f K (Err.no (13 : Int)) [a1]).bind fun t => some ((0 : Int), false, (0 : Int), (0 : Int), (0 : Int), (0 : Int), t, t_4.2.2) else some (IntKind.i64.wrap (IntKind.u8.wrap (↑(BitVec.ofInt (8 : Nat) t.1 &&& BitVec.ofInt (8 : Nat) (7 : Int)).toNat : Int)), t_5, t_3.1, t_1.1, t_4.1, IntKind.i64.wrap (IntKind.u8.wrap (↑(BitVec.ofInt (8 : Nat) (t.1.fdiv ((2 : Int) ^ (4 : Nat))) &&& BitVec.ofInt (8 : Nat) (3 : Int)).toNat : Int)), Err.nil, t_4.2.2) else q1c (bif IntKind.u8.wrap (↑(BitVec.ofInt (8 : Nat) t.1 &&& BitVec.ofInt (8 : Nat) (64 : Int)).toNat : Int) != (0 : Int) then bif t_1.1 == (-9223372036854775808 : Int) then some true else bif IntKind.u8.wrap (↑(BitVec.ofInt (8 : Nat) t.1 &&& BitVec.ofInt (8 : Nat) (128 : Int)).toNat : Int) != (0 : Int) then bif t_4.1 == (9223372036854775807 : Int) then some true else (q0z.f K t_1.1 t_4.1).bind fun t => some !t else (q0z.f K t_1.1 t_4.1).bind fun t => some !t else bif IntKind.u8.wrap (↑(BitVec.ofInt (8 : Nat) t.1 &&& BitVec.ofInt (8 : Nat) (128 : Int)).toNat : Int) != (0 : Int) then bif t_4.1 == (9223372036854775807 : Int) then some true else (q0z.f K t_1.1 t_4.1).bind fun t => some !t else (q0z.f K t_1.1 t_4.1).bind fun t => some !t) fun t_5 => bif t_5 then (q1z.f K (Err.no (13 : Int)) [a1]).bind fun t => some ((0 : Int), false, (0 : Int), (0 : Int), (0 : Int), (0 : Int), t, t_4.2.2) else some (IntKind.i64.wrap (IntKind.u8.wrap (↑(BitVec.ofInt (8 : Nat) t.1 &&& BitVec.ofInt (8 : Nat) (7 : Int)).toNat : Int)), false, (0 : Int), t_1.1, t_4.1, IntKind.i64.wrap (IntKind.u8.wrap (↑(BitVec.ofInt (8 : Nat) (t.1.fdiv ((2 : Int) ^ (4 : Nat))) &&& BitVec.ofInt (8 : Nat) (3 : Int)).toNat : Int)), Err.nil, t_4.2.2) else (q2u.f K a0 t_3.2.2).bind fun t_4 => bif bif true then !t_4.2.1.isNil else t_4.2.1.isNil then some ((0 : Int), false, (0 : Int), (0 : Int), (0 : Int), (0 : Int), t_4.2.1, t_4.2.2) else bif IntKind.u8.wrap (↑(BitVec.ofInt (8 : Nat) t.1 &&& BitVec.ofInt (8 : Nat) (128 : Int)).toNat : Int) == (0 : Int) then bif IntKind.u8.wrap (↑(BitVec.ofInt (8 : Nat) t.1 &&& BitVec.ofInt (8 : Nat) (8 : Int)).toNat : Int) != (0 : Int) then (q43.f K).bind fun t_5 => q1c (bif IntKind.u8.wrap (↑(BitVec.ofInt (8 : Nat) t.1 &&& BitVec.ofInt (8 : Nat) (64 : Int)).toNat : Int) != (0 : Int) then bif t_4.1 == (-9223372036854775808 : Int) then some true else bif IntKind.u8.wrap (↑(BitVec.ofInt (8 : Nat) t.1 &&& BitVec.ofInt (8 : Nat) (128 : Int)).toNat : Int) != (0 : Int) then bif t_1.2 == (9223372036854775807 : Int) then some true else (q0z.f K t_4.1 t_1.2).bind fun t => some !t else (q0z.f K t_4.1 t_1.2).bind fun t => some !t else bif IntKind.u8.wrap (↑(BitVec.ofInt (8 : Nat) t.1 &&& BitVec.ofInt (8 : Nat) (128 : Int)).toNat : Int) != (0 : Int) then bif t_1.2 == (9223372036854775807 : Int) then some true else (q0z.f K t_4.1 t_1.2).bind fun t => some !t else (q0z.f K t_4.1 t_1.2).bind fun t => some !t) fun t_6 => bif t_6 then (q1z.f K (Err.no (13 : Int)) [a1]).bind fun t => some ((0 : Int), false, (0 : Int), (0 : Int), (0 : Int), (0 : Int), t, t_4.2.2) else some (IntKind.i64.wrap (IntKind.u8.wrap (↑(BitVec.ofInt (8 : Nat) t.1 &&& BitVec.ofInt (8 : Nat) (7 : Int)).toNat : Int)), t_5, t_3.1, t_4.1, t_1.2, IntKind.i64.wrap (IntKind.u8.wrap (↑(BitVec.ofInt (8 : Nat) (t.1.fdiv ((2 : Int) ^ (4 : Nat))) &&& BitVec.ofInt (8 : Nat) (3 : Int)).toNat : Int)), Err.nil, t_4.2.2) else q1c (bif IntKind.u8.wrap (↑(BitVec.ofInt (8 : Nat) t.1 &&& BitVec.ofInt (8 : Nat) (64 : Int)).toNat : Int) != (0 : Int) then bif t_4.1 == (-9223372036854775808 : Int) then some true else bif IntKind.u8.wrap (↑(BitVec.ofInt (8 : Nat) t.1 &&& BitVec.ofInt (8 : Nat) (128 : Int)).toNat : Int) != (0 : Int) then bif t_1.2 == (9223372036854775807 : Int) then some true else (q0z.f K t_4.1 t_1.2).bind fun t => some !t else (q0z.f K t_4.1 t_1.2).bind fun t => some !t else bif IntKind.u8.wrap (↑(BitVec.ofInt (8 : Nat) t.1 &&& BitVec.ofInt (8 : Nat) (128 : Int)).toNat : Int) != (0 : Int) then bif t_1.2 == (9223372036854775807 : Int) then some true else (q0z.f K t_4.1 t_1.2).bind fun t => some !t else (q0z.f K t_4.1 t_1.2).bind fun t => some !t) fun t_5 => bif t_5 then (q1z.f K (Err.no (13 : Int)) [a1]).bind fun t => some ((0 : Int), false, (0 : Int), (0 : Int), (0 : Int), (0 : Int), t, t_4.2.2) else some (IntKind.i64.wrap (IntKind.u8.wrap (↑(BitVec.ofInt (8 : Nat) t.1 &&& BitVec.ofInt (8 : Nat) (7 : Int)).toNat : Int)), false, (0 : Int), t_4.1, t_1.2, IntKind.i64.wrap (IntKind.u8.wrap (↑(BitVec.ofInt (8 : Nat) (t.1.fdiv ((2 : Int) ^ (4 : Nat))) &&& BitVec.ofInt (8 : Nat) (3 : Int)).toNat : Int)), Err.nil, t_4.2.2) else (q2u.f K a0 t_4.2.2).bind fun t_5 => bif bif true then !t_5.2.1.isNil else t_5.2.1.isNil then some ((0 : Int), false, (0 : Int), (0 : Int), (0 : Int), (0 : Int), t_5.2.1, t_5.2.2) else bif IntKind.u8.wrap (↑(BitVec.ofInt (8 : Nat) t.1 &&& BitVec.ofInt (8 : Nat) (8 : Int)).toNat : Int) != (0 : Int) then (q43.f K).bind fun t_6 => q1c (bif IntKind.u8.wrap (↑(BitVec.ofInt (8 : Nat) t.1 &&& BitVec.ofInt (8 : Nat) (64 : Int)).toNat : Int) != (0 : Int) then bif t_4.1 == (-9223372036854775808 : Int) then some true else bif IntKind.u8.wrap (↑(BitVec.ofInt (8 : Nat) t.1 &&& BitVec.ofInt (8 : Nat) (128 : Int)).toNat : Int) != (0 : Int) then bif t_5.1 == (9223372036854775807 : Int) then some true else (q0z.f K t_4.1 t_5.1).bind fun t => some !t else (q0z.f K t_4.1 t_5.1).bind fun t => some !t else bif IntKind.u8.wrap (↑(BitVec.ofInt (8 : Nat) t.1 &&& BitVec.ofInt (8 : Nat) (128 : Int)).toNat : Int) != (0 : Int) then bif t_5.1 == (9223372036854775807 : Int) then some true else (q0z.f K t_4.1 t_5.1).bind fun t => some !t else (q0z.f K t_4.1 t_5.1).bind fun t => some !t) fun t_7 => bif t_7 then (q1z.f K (Err.no (13 : Int)) [a1]).bind fun t => some ((0 : Int), false, (0 : Int), (0 : Int), (0 : Int), (0 : Int), t, t_5.2.2) else some (IntKind.i64.wrap (IntKind.u8.wrap (↑(BitVec.ofInt (8 : Nat) t.1 &&& BitVec.ofInt (8 : Nat) (7 : Int)).toNat : Int)), t_6, t_3.1, t_4.1, t_5.1, IntKind.i64.wrap (IntKind.u8.wrap (↑(BitVec.ofInt (8 : Nat) (t.1.fdiv ((2 : Int) ^ (4 : Nat))) &&& BitVec.ofInt (8 : Nat) (3 : Int)).toNat : Int)), Err.nil, t_5.2.2) else q1c (bif IntKind.u8.wrap (↑(BitVec.ofInt (8 : Nat) t.1 &&& BitVec.ofInt (8 : Nat) (64 : Int)).toNat : Int) != (0 : Int) then bif t_4.1 == (-9223372036854775808 : Int) then some true else bif IntKind.u8.wrap (↑(BitVec.ofInt (8 : Nat) t.1 &&& BitVec.ofInt (8 : Nat) (128 : Int)).toNat : Int) != (0 : Int) then bif t_5.1 == (9223372036854775807 : Int) then some true else (q0z.f K t_4.1 t_5.1).bind fun t => some !t else (q0z.f K t_4.1 t_5.1).bind fun t => some !t else bif IntKind.u8.wrap (↑(BitVec.ofInt (8 : Nat) t.1 &&& BitVec.ofInt (8 : Nat) (128 : Int)).toNat : Int) != (0 : Int) then bif t_5.1 == (9223372036854775807 : Int) then some true else (q0z.f K t_4.1 t_5.1).bind fun t => some !t else (q0z.f K t_4.1 t_5.1).bind fun t => some !t) fun t_6 => bif t_6 then (q1z.f K (Err.no (13 : Int)) [a1]).bind fun t => some ((0 : Int), false, (0 : Int), (0 : Int), (0 : Int), (0 : Int), t, t_5.2.2) else some (IntKind.i64.wrap (IntKind.u8.wrap (↑(BitVec.ofInt (8 : Nat) t.1 &&& BitVec.ofInt (8 : Nat) (7 : Int)).toNat : Int)), false, (0 : Int), t_4.1, t_5.1, IntKind.i64.wrap (IntKind.u8.wrap (↑(BitVec.ofInt (8 : Nat) (t.1.fdiv ((2 : Int) ^ (4 : Nat))) &&& BitVec.ofInt (8 : Nat) (3 : Int)).toNat : Int)), Err.nil, t_5.2.2)
noncomputable def F (K : Nat) : sig.In → Option (Int × Bool × Int × Int × Int × Int × Err × Int) := fun x => f K x.2.1.1 x.2.1.2
noncomputable def cv : sig.In → (Int × Bool × Int × Int × Int × Int × Err × Int) → sig.Ou := fun x r => (((r.1, (r.2.1, (r.2.2.1, (r.2.2.2.1, (r.2.2.2.2.1, r.2.2.2.2.2.1))))), r.2.2.2.2.2.2.1), ((x.2.1.1, r.2.2.2.2.2.2.2), ()))
theorem rets (K : Nat) : ∀ x y, q3r (F K) cv x = some y → Rets M 127 sig x y := z6w (C := (C K)) (LP := q54) (RF := q6b) (CP := (CP K)) z0v mxd q7f (CP_ok K) (show q6d M 1 q54 (q25 (z3d Tryz.f127)) from (show q25 (z3d Tryz.f127) = [q0o Tryz.f127 0] by kernel_rfl) ▸ (j0w (key := 10) (by kernel_rfl) (by kernel_rfl) q7g)) (lb rfl) Tryz.func127 (by kernel_rfl) fun x => by
  rw [q0b]
  unfold F f
  try simp only [el]
  kernel_rfl
noncomputable def e (K : Nat) : En M := ⟨127, sig, _, F K, cv, by rfl, Tryz.f127, Tryz.func127, by kernel_rfl, rfl, rets K⟩
end q2v
namespace z06
noncomputable def f (K : Nat) (a0 : List Int) (a1 : Int) : Option (Int × Bool × Int × Int × Int × Int × Err × Int) := (q4a.f K).bind fun t => (q2v.f K a0 a1).bind fun t => bif bif true then !t.2.2.2.2.2.2.1.isNil else t.2.2.2.2.2.2.1.isNil then some ((0 : Int), false, (0 : Int), (0 : Int), (0 : Int), (0 : Int), t.2.2.2.2.2.2.1, a1) else q2v.f K a0 a1
noncomputable def e (K : Nat) : En M := fnE (m := 1) { hmx := mxd, nt := 26, cs := [q4a.e K, q2v.e K] } 73 Tryz.func73 ⟨(.ptr 0 0), [hh6d], (.cons (.agg (.cons (.ty yI) (.cons (.ty .bool) (.cons (.ty yI) (.cons (.ty yI) (.cons (.ty yI) (.ty yI))))))) (.ty .err)), [hh6d]⟩ [] (fun x => f K x.2.1.1 x.2.1.2) (fun x r => (((r.1, r.2.1, r.2.2.1, r.2.2.2.1, r.2.2.2.2.1, r.2.2.2.2.2.1), r.2.2.2.2.2.2.1), (x.2.1.1, r.2.2.2.2.2.2.2), ())) fun x => by
  rw [q0b, f]
  try simp only [el]
  kernel_rfl
end z06
namespace q23
noncomputable def f (K : Nat) (a0 : Err) (a1 : List Int) (a2 : Int) : Option (Int × Bool × Int × Int × Int × Int × Err × Int) := bif bif true then !a0.isNil else a0.isNil then some ((0 : Int), false, (0 : Int), (0 : Int), (0 : Int), (0 : Int), a0, a2) else (z06.f K a1 a2).bind fun t => (q1i.f K t.2.2.2.2.2.2.1 a0).bind fun t_1 => some (t.1, t.2.1, t.2.2.1, t.2.2.2.1, t.2.2.2.2.1, t.2.2.2.2.2.1, t_1, t.2.2.2.2.2.2.2)
noncomputable def e (K : Nat) : En M := fnE (m := 2) { hmx := mxd, nt := 23, cs := [z06.e K, q1i.e K] } 20 Tryz.func20 ⟨(.ptr 0 0), hs9d, sh36, hs9d⟩ [] (fun x => f K x.2.1.2 x.2.2.1.1 x.2.2.1.2) (fun x r => ((r.1, r.2.1, r.2.2.1, r.2.2.2.1, r.2.2.2.2.1, r.2.2.2.2.2.1), ((), r.2.2.2.2.2.2.1), (x.2.2.1.1, r.2.2.2.2.2.2.2), ())) fun x => by
  rw [q0b, f]
  try simp only [el]
  kernel_rfl
end q23
namespace q3a
noncomputable def X (K : Nat) : Fx M 2 := { hmx := mxd, nt := 35, cs := [q3t.e K, q23.e K] }
noncomputable def l0.f (K : Nat) : Nat → Int → Int → Err → List Int → Int → List q0d → Option (Err × Int × List q0d)
  | 0, _, _, _, _, _, _ => none
  | k + 1, a0, a1, a2, a3, a4, a22 => bif decide (a1 < a0) then (q23.f K a2 a3 a4).bind fun t => bif (a22.length + [(t.1, (t.2.1, t.2.2.1), (t.2.2.2.1, t.2.2.2.2.1), t.2.2.2.2.2.1)].length).ble (1000000 : Nat) then l0.f K k a0 (IntKind.i64.wrap (a1 + (1 : Int))) t.2.2.2.2.2.2.1 a3 t.2.2.2.2.2.2.2 (a22 ++ [(t.1, (t.2.1, t.2.2.1), (t.2.2.2.1, t.2.2.2.2.1), t.2.2.2.2.2.1)]) else none else some (a2, a4, a22)
noncomputable def l0.b (K : Nat) : Lp M 2 := q2d (X K) 5 35 0 (q0o Tryz.f22 0) ⟨[0, 4, 6, 18, 19], sh70, hs9e⟩ ⟨[0, 4, 6], sh74, hs9e⟩ K [] (fun k (x : ((Unit × (Unit × (Unit × (Int × Int)))) × ((Unit × Err) × (((List Int) × Int) × ((Bool × (Unit × (Bool × (Int × (Bool × (Int × (Int × (Int × Int)))))))) × ((Bool × (Unit × (Bool × (Int × (Bool × (Int × (Int × (Int × Int)))))))) × ((List q0d) × ((List q0d) × Unit)))))))) => l0.f K k x.1.2.2.2.1 x.1.2.2.2.2 x.2.1.2 x.2.2.1.1 x.2.2.1.2 x.2.2.2.2.2.2.1) (fun x r => (((), (), ()), ((), r.1), (x.2.2.1.1, r.2.1), x.2.2.2.1, x.2.2.2.2.1, x.2.2.2.2.2.1, r.2.2, ())) fun k (x : ((Unit × (Unit × (Unit × (Int × Int)))) × ((Unit × Err) × (((List Int) × Int) × ((Bool × (Unit × (Bool × (Int × (Bool × (Int × (Int × (Int × Int)))))))) × ((Bool × (Unit × (Bool × (Int × (Bool × (Int × (Int × (Int × Int)))))))) × ((List q0d) × ((List q0d) × Unit)))))))) => by
  refine Eq.trans ?_ q0b.symm
  rw [l0.f]
  try simp only [el]
  kernel_rfl
noncomputable def f (K : Nat) (a0 : Int) (a1 : Err) (a2 : List Int) (a3 : Int) : Option (Bool × List q0d × Bool × Int × Bool × Int × Int × Int × Int × Err × Int) := (q3t.f K (3 : Int) a1 a2 a3).bind fun t => bif IntKind.u8.wrap (↑(BitVec.ofInt (8 : Nat) t.1 &&& BitVec.ofInt (8 : Nat) (1 : Int)).toNat : Int) != (0 : Int) then (l0.f K K a0 (0 : Int) t.2.1 a2 t.2.2 []).bind fun t_1 => bif IntKind.u8.wrap (↑(BitVec.ofInt (8 : Nat) t.1 &&& BitVec.ofInt (8 : Nat) (2 : Int)).toNat : Int) != (0 : Int) then (q23.f K t_1.1 a2 t_1.2.1).bind fun t_2 => some (IntKind.u8.wrap (↑(BitVec.ofInt (8 : Nat) t.1 &&& BitVec.ofInt (8 : Nat) (1 : Int)).toNat : Int) != (0 : Int), t_1.2.2, IntKind.u8.wrap (↑(BitVec.ofInt (8 : Nat) t.1 &&& BitVec.ofInt (8 : Nat) (2 : Int)).toNat : Int) != (0 : Int), t_2.1, t_2.2.1, t_2.2.2.1, t_2.2.2.2.1, t_2.2.2.2.2.1, t_2.2.2.2.2.2.1, t_2.2.2.2.2.2.2.1, t_2.2.2.2.2.2.2.2) else some (IntKind.u8.wrap (↑(BitVec.ofInt (8 : Nat) t.1 &&& BitVec.ofInt (8 : Nat) (1 : Int)).toNat : Int) != (0 : Int), t_1.2.2, IntKind.u8.wrap (↑(BitVec.ofInt (8 : Nat) t.1 &&& BitVec.ofInt (8 : Nat) (2 : Int)).toNat : Int) != (0 : Int), (0 : Int), false, (0 : Int), (0 : Int), (0 : Int), (0 : Int), t_1.1, t_1.2.1) else bif IntKind.u8.wrap (↑(BitVec.ofInt (8 : Nat) t.1 &&& BitVec.ofInt (8 : Nat) (2 : Int)).toNat : Int) != (0 : Int) then (q23.f K t.2.1 a2 t.2.2).bind fun t_1 => some (IntKind.u8.wrap (↑(BitVec.ofInt (8 : Nat) t.1 &&& BitVec.ofInt (8 : Nat) (1 : Int)).toNat : Int) != (0 : Int), [], IntKind.u8.wrap (↑(BitVec.ofInt (8 : Nat) t.1 &&& BitVec.ofInt (8 : Nat) (2 : Int)).toNat : Int) != (0 : Int), t_1.1, t_1.2.1, t_1.2.2.1, t_1.2.2.2.1, t_1.2.2.2.2.1, t_1.2.2.2.2.2.1, t_1.2.2.2.2.2.2.1, t_1.2.2.2.2.2.2.2) else some (IntKind.u8.wrap (↑(BitVec.ofInt (8 : Nat) t.1 &&& BitVec.ofInt (8 : Nat) (1 : Int)).toNat : Int) != (0 : Int), [], IntKind.u8.wrap (↑(BitVec.ofInt (8 : Nat) t.1 &&& BitVec.ofInt (8 : Nat) (2 : Int)).toNat : Int) != (0 : Int), (0 : Int), false, (0 : Int), (0 : Int), (0 : Int), (0 : Int), t.2.1, t.2.2)
noncomputable def e (K : Nat) : En M := fnE (X K) 22 Tryz.func22 ⟨sh1b, hs9d, sh21, hs9d⟩ [l0.b K] (fun x => f K x.1.2 x.2.1.2 x.2.2.1.1 x.2.2.1.2) (fun x r => ((r.1, r.2.1, r.2.2.1, r.2.2.2.1, r.2.2.2.2.1, r.2.2.2.2.2.1, r.2.2.2.2.2.2.1, r.2.2.2.2.2.2.2.1, r.2.2.2.2.2.2.2.2.1), ((), r.2.2.2.2.2.2.2.2.2.1), (x.2.2.1.1, r.2.2.2.2.2.2.2.2.2.2), ())) fun x => by
  rw [q0b, f]
  try simp only [el]
  kernel_rfl
end q3a
namespace q4t
noncomputable def X (K : Nat) : Fx M 1 := { hmx := mxd, nt := 48, cs := [q2a.e K] }
noncomputable def l0.f (K : Nat) : Nat → Int → List Int → Int → Int → List Int → Option ((List Int) ⊕ (Err × List Int))
  | 0, _, _, _, _, _ => none
  | k + 1, a0, a1, a2, a3, a6 => bif decide (a3 < a2) then bif decide ((0 : Int) ≤ IntKind.i64.wrap (a3.tdiv (8 : Int))) && true then a1[(IntKind.i64.wrap (a3.tdiv (8 : Int))).toNat]?.bind fun t => bif decide (a3.tmod (8 : Int) < (0 : Int)) then none else bif IntKind.u8.wrap (↑(BitVec.ofInt (8 : Nat) (Int.fdiv t ((2 : Int) ^ min (a3.tmod (8 : Int)).toNat (8 : Nat))) &&& BitVec.ofInt (8 : Nat) (1 : Int)).toNat : Int) == (0 : Int) then l0.f K k a0 a1 a2 (IntKind.i64.wrap (a3 + (1 : Int))) a6 else bif decide (a3 ≥ a0) then some (Sum.inr (Err.no (3 : Int), [])) else bif (a6.length + [a3].length).ble (1000000 : Nat) then l0.f K k a0 a1 a2 (IntKind.i64.wrap (a3 + (1 : Int))) (a6 ++ [a3]) else none else none else some (Sum.inl a6)
noncomputable def l0.b (K : Nat) : Lp M 1 := q37 (X K) 6 48 0 (q0o Tryz.f218 0) ⟨[1, 6, 8, 24, 25], (.cons (.ty yI) (.cons (.ty (.slice (.int .u8))) (.cons (.own 1) (.cons (.ty yI) (.ty yI))))), hsa0⟩ ⟨[8], (.own 1), hsa0⟩ ⟨[4, 5], (.cons (.own 1) (.ty .err)), hsa0⟩ K [] (fun k x => l0.f K k x.1.1 x.1.2.1 x.1.2.2.2.1 x.1.2.2.2.2 x.2.2.1) (fun x r => ((), x.2.1, r, ())) (fun x r => (((), r.1), x.2.1, r.2, ())) fun k x => by
  rw [q0b, l0.f]
  try simp only [el]
  kernel_rfl
noncomputable def f (K : Nat) (a0 : Int) (a1 : List Int) (a2 : Int) : Option (List Int × Err × Int) := (q2a.f K (IntKind.i64.wrap ((IntKind.i64.wrap (IntKind.i64.wrap (a0 + (8 : Int)) - (1 : Int))).tdiv (8 : Int))) a1 a2).bind fun t => bif bif true then !t.2.1.isNil else t.2.1.isNil then some ([], t.2.1, t.2.2) else (l0.f K K a0 t.1 (IntKind.i64.wrap ((8 : Int) * (↑t.1.length : Int))) (0 : Int) []).bind fun t_1 => Sum.elim (fun t_2 => some (t_2, Err.nil, t.2.2)) (fun t_2 => some (t_2.2, t_2.1, t.2.2)) t_1
noncomputable def e (K : Nat) : En M := fnE (X K) 218 Tryz.func218 ⟨sh1b, [hh6d], sh9f, [hh6d]⟩ [l0.b K] (fun x => f K x.1.2 x.2.1.1 x.2.1.2) (fun x r => ((r.1, r.2.1), (x.2.1.1, r.2.2), ())) fun x => by
  rw [q0b, f]
  try simp only [el]
  kernel_rfl
end q4t
namespace q7h
noncomputable def f (K : Nat) (a0 : Int) (a1 : Int) (a2 : List Int) (a3 : Int) : Option (Int × Err × Int) := bif decide (a0 ≥ a1) then some ((0 : Int), Err.no (4 : Int), a3) else (q16.f K (IntKind.u64.wrap (IntKind.i64.wrap (IntKind.i64.wrap (a1 - (1 : Int)) - a0))) a2 a3).bind fun t => some (IntKind.i64.wrap (a0 + IntKind.i64.wrap t.1), t.2.1, t.2.2)
noncomputable def e (K : Nat) : En M := fnE (m := 1) { hmx := mxd, nt := 29, cs := [q16.e K] } 227 Tryz.func227 ⟨sh17, [hh6d], (.cons (.ty yI) (.ty .err)), [hh6d]⟩ [] (fun x => f K x.1.2.1 x.1.2.2 x.2.1.1 x.2.1.2) (fun x r => ((r.1, r.2.1), (x.2.1.1, r.2.2), ())) fun x => by
  rw [q0b, f]
  try simp only [el]
  kernel_rfl
end q7h
namespace q4n
noncomputable def X (K : Nat) : Fx M 1 := { hmx := mxd, nt := 43, cs := [q16.e K, q7h.e K] }
noncomputable def l0.f (K : Nat) : Nat → Int → Int → Int → Int → List Int → Int → List Int → Option ((Int × List Int) ⊕ (Err × Int × List Int))
  | 0, _, _, _, _, _, _, _ => none
  | k + 1, a0, a1, a2, a3, a4, a5, a6 => bif decide (a3 < a2) then (q7h.f K a1 a0 a4 a5).bind fun t => bif bif true then !t.2.1.isNil else t.2.1.isNil then some (Sum.inr (t.2.1, t.2.2, [])) else bif (a6.length + [t.1].length).ble (1000000 : Nat) then l0.f K k a0 (IntKind.i64.wrap (t.1 + (1 : Int))) a2 (IntKind.u64.wrap (a3 + (1 : Int))) a4 t.2.2 (a6 ++ [t.1]) else none else some (Sum.inl (a5, a6))
noncomputable def l0.b (K : Nat) : Lp M 1 := q37 (X K) 7 43 0 (q0o Tryz.f219 0) ⟨[0, 1, 8, 9, 22, 23], sha1, hsa0⟩ ⟨[8], (.own 1), hsa0⟩ ⟨[4, 5], (.cons (.own 1) (.ty .err)), hsa0⟩ K [] (fun k x => l0.f K k x.1.2.1 x.1.2.2.2.1 x.1.2.2.2.2.1 x.1.2.2.2.2.2 x.2.1.1 x.2.1.2 x.2.2.1) (fun x r => ((), (x.2.1.1, r.1), r.2, ())) (fun x r => (((), r.1), (x.2.1.1, r.2.1), r.2.2, ())) fun k x => by
  rw [q0b, l0.f]
  try simp only [el]
  kernel_rfl
noncomputable def f (K : Nat) (a0 : Int) (a1 : List Int) (a2 : Int) : Option (List Int × Err × Int) := (q16.f K (IntKind.u64.wrap a0) a1 a2).bind fun t => bif bif true then !t.2.1.isNil else t.2.1.isNil then some ([], t.2.1, t.2.2) else (l0.f K K a0 (0 : Int) t.1 (0 : Int) a1 t.2.2 []).bind fun t => Sum.elim (fun t => some (t.2, Err.nil, t.1)) (fun t => some (t.2.2, t.1, t.2.1)) t
noncomputable def e (K : Nat) : En M := fnE (X K) 219 Tryz.func219 ⟨sh1b, [hh6d], sh9f, [hh6d]⟩ [l0.b K] (fun x => f K x.1.2 x.2.1.1 x.2.1.2) (fun x r => ((r.1, r.2.1), (x.2.1.1, r.2.2), ())) fun x => by
  rw [q0b, f]
  try simp only [el]
  kernel_rfl
end q4n
namespace q31
noncomputable def X (K : Nat) : Fx M 1 := { hmx := mxd, nt := 61, cs := [q16.e K, q7h.e K] }
noncomputable def l1.f (K : Nat) : Nat → Int → Int → List Int → Option (List Int)
  | 0, _, _, _ => none
  | k + 1, a1, a2, a7 => bif decide (a2 ≤ a1) then bif (a7.length + [a2].length).ble (1000000 : Nat) then l1.f K k a1 (IntKind.i64.wrap (a2 + (1 : Int))) (a7 ++ [a2]) else none else some a7
noncomputable def l1.b (K : Nat) : Lp M 1 := q2d (X K) 15 61 2 (q0o Tryz.f220 1) ⟨[0, 1, 8, 12, 13, 24, 25], (.cons (.ptr 0 0) (.cons (.ty yI) (.cons (.own 1) (.cons (.ty yI) (.cons (.ty yI) (.cons (.ty (.int .u64)) (.ty (.int .u64)))))))), hsa0⟩ ⟨[0, 1, 8, 12, 24, 25], sha1, hsa0⟩ K [] (fun k x => l1.f K k x.1.2.2.2.1 x.1.2.2.2.2.1 x.2.2.1) (fun x r => (((), x.1.2.1, (), x.1.2.2.2.1, x.1.2.2.2.2.2), x.2.1, r, ())) fun k x => by
  rw [q0b, l1.f]
  try simp only [el]
  kernel_rfl
noncomputable def l0.f (K : Nat) : Nat → Int → Int → Int → Int → List Int → Int → List Int → Option ((Int × List Int) ⊕ (Err × Int × List Int))
  | 0, _, _, _, _, _, _, _ => none
  | k + 1, a0, a1, a2, a3, a4, a5, a6 => bif decide (a3 < a2) then (q7h.f K a1 a0 a4 a5).bind fun t => bif bif true then !t.2.1.isNil else t.2.1.isNil then some (Sum.inr (t.2.1, t.2.2, [])) else (q7h.f K t.1 a0 a4 t.2.2).bind fun t_1 => bif bif true then !t_1.2.1.isNil else t_1.2.1.isNil then some (Sum.inr (t_1.2.1, t_1.2.2, [])) else (l1.f K K t_1.1 t.1 a6).bind fun t => l0.f K k a0 (IntKind.i64.wrap (t_1.1 + (2 : Int))) a2 (IntKind.u64.wrap (a3 + (1 : Int))) a4 t_1.2.2 t else some (Sum.inl (a5, a6))
noncomputable def l0.b (K : Nat) : Lp M 1 := q37 (X K) 7 61 0 (q0o Tryz.f220 0) ⟨[0, 1, 8, 9, 24, 25], sha1, hsa0⟩ ⟨[8], (.own 1), hsa0⟩ ⟨[4, 5], (.cons (.own 1) (.ty .err)), hsa0⟩ K [l1.b K] (fun k x => l0.f K k x.1.2.1 x.1.2.2.2.1 x.1.2.2.2.2.1 x.1.2.2.2.2.2 x.2.1.1 x.2.1.2 x.2.2.1) (fun x r => ((), (x.2.1.1, r.1), r.2, ())) (fun x r => (((), r.1), (x.2.1.1, r.2.1), r.2.2, ())) fun k x => by
  rw [q0b, l0.f]
  try simp only [el]
  kernel_rfl
noncomputable def f (K : Nat) (a0 : Int) (a1 : List Int) (a2 : Int) : Option (List Int × Err × Int) := (q16.f K (IntKind.u64.wrap a0) a1 a2).bind fun t => bif bif true then !t.2.1.isNil else t.2.1.isNil then some ([], t.2.1, t.2.2) else (l0.f K K a0 (0 : Int) t.1 (0 : Int) a1 t.2.2 []).bind fun t => Sum.elim (fun t => some (t.2, Err.nil, t.1)) (fun t => some (t.2.2, t.1, t.2.1)) t
noncomputable def e (K : Nat) : En M := fnE (X K) 220 Tryz.func220 ⟨sh1b, [hh6d], sh9f, [hh6d]⟩ [l0.b K, l1.b K] (fun x => f K x.1.2 x.2.1.1 x.2.1.2) (fun x r => ((r.1, r.2.1), (x.2.1.1, r.2.2), ())) fun x => by
  rw [q0b, f]
  try simp only [el]
  kernel_rfl
end q31
namespace z0o
noncomputable def f (K : Nat) (a0 : Int) (a1 : List Int) (a2 : Int) : Option (List Int × Err × Int) := (q29.f K a1 a2).bind fun t => bif bif true then !t.2.1.isNil else t.2.1.isNil then some ([], t.2.1, t.2.2) else bif t.1 == (0 : Int) then q4t.f K a0 a1 t.2.2 else bif t.1 == (1 : Int) then q4n.f K a0 a1 t.2.2 else bif t.1 == (2 : Int) then q31.f K a0 a1 t.2.2 else some ([], Err.no (5 : Int), t.2.2)
noncomputable def e (K : Nat) : En M := fnE (m := 1) { hmx := mxd, nt := 39, cs := [q29.e K, q4t.e K, q4n.e K, q31.e K] } 208 Tryz.func208 ⟨sh1b, [hh6d], sh9f, [hh6d]⟩ [] (fun x => f K x.1.2 x.2.1.1 x.2.1.2) (fun x r => ((r.1, r.2.1), (x.2.1.1, r.2.2), ())) fun x => by
  rw [q0b, f]
  try simp only [el]
  kernel_rfl
end z0o
namespace j0b
noncomputable def f (K : Nat) (a0 : Err) (a1 : Err) : Option (Bool) := bif bif false then !a0.isNil else a0.isNil then some false else bif bif false then !a1.isNil else a1.isNil then none else none
noncomputable def e (K : Nat) : En M := fnE (m := 0) { hmx := mxd, nt := 42, cs := [] } 85 Tryz.func85 ⟨(.cons (.ty .err) (.ty .err)), [], (.ty .bool), []⟩ [] (fun x => f K x.1.1 x.1.2) (fun x r => (r, ())) fun x => by
  rw [q0b, f]
  try simp only [el]
  kernel_rfl
end j0b
namespace z2m
noncomputable def f (K : Nat) (a0 : Err) : Option (Int) := bif bif false then !a0.isNil else a0.isNil then some (0 : Int) else none
noncomputable def e (K : Nat) : En M := fnE (m := 0) { hmx := mxd, nt := 10, cs := [j0b.e K] } 30 Tryz.func30 ⟨(.ty .err), [], (.ty yI), []⟩ [] (fun x => f K x.1) (fun x r => (r, ())) fun x => by
  rw [q0b, f]
  try simp only [el]
  kernel_rfl
end z2m
namespace q83
noncomputable def f (K : Nat) (a0 : List Int) (a1 : List Int) : Option (Bool) := some ((strOf a0).toList == (strOf a1).toList)
noncomputable def e (K : Nat) : En M := fnE (m := 0) { hmx := mxd, nt := 10, cs := [] } 209 Tryz.func209 ⟨(.cons (.ty (.slice (.int .u8))) (.ty (.slice (.int .u8)))), [], (.ty .bool), []⟩ [] (fun x => f K x.1.1 x.1.2) (fun x r => (r, ())) fun x => by
  rw [q0b, f]
  try simp only [el]
  kernel_rfl
end q83
namespace z0j
noncomputable def X (K : Nat) : Fx M 1 := { hmx := mxd, nt := 80, cs := [q1m.e K, q1z.e K, q4a.e K, z0o.e K, z2m.e K, q2a.e K, q6t.e K, q5q.e K, q83.e K], cp := [(2, [.bool], [23]), (10, [.bool], [67])] }
noncomputable def f (K : Nat) (a0 : Int) (a1 : List Int) (a2 : Int) : Option (List Int × Err × Int) := (q1m.f K).bind fun t => q1c (bif decide (a0 < (0 : Int)) then some true else some (decide (a0 > (4096 : Int)))) fun t => bif t then (q1z.f K (Err.no (1 : Int)) [a2]).bind fun t => some ([], t, a2) else (q4a.f K).bind fun t => (z0o.f K a0 a1 a2).bind fun t => bif bif true then !t.2.1.isNil else t.2.1.isNil then (z2m.f K t.2.1).bind fun t => (q1z.f K (Err.no t) [a2]).bind fun t => some ([], t, a2) else (q1m.f K).bind fun t_1 => (q4a.f K).bind fun t_2 => (q2a.f K (IntKind.i64.wrap (t.2.2 - a2)) a1 a2).bind fun t_3 => q1c (bif bif true then !t_3.2.1.isNil else t_3.2.1.isNil then some true else (q6t.f K a0 t.1).bind fun t_4 => (q5q.f K a0 t.1 t_4).bind fun t => (q83.f K t_3.1 t).bind fun t => some !t) fun t_4 => bif t_4 then (q1z.f K (Err.no (3 : Int)) [a2]).bind fun t => some ([], t, a2) else (q2a.f K (IntKind.i64.wrap (t.2.2 - a2)) a1 a2).bind fun t_5 => some (t.1, t_5.2.1, t_5.2.2)
noncomputable def e (K : Nat) : En M := fnE (X K) 181 Tryz.func181 ⟨sh1b, [hh6d], sh9f, [hh6d]⟩ [] (fun x => f K x.1.2 x.2.1.1 x.2.1.2) (fun x r => ((r.1, r.2.1), (x.2.1.1, r.2.2), ())) fun x => by
  rw [q0b, f]
  try simp only [el]
  kernel_rfl
end z0j
namespace q41
noncomputable def f (K : Nat) (a0 : Int) (a1 : Err) (a2 : List Int) (a3 : Int) : Option (List Int × Err × Int) := bif bif true then !a1.isNil else a1.isNil then some ([], a1, a3) else (z0j.f K a0 a2 a3).bind fun t => (q1i.f K t.2.1 a1).bind fun t_1 => some (t.1, t_1, t.2.2)
noncomputable def e (K : Nat) : En M := fnE (m := 2) { hmx := mxd, nt := 25, cs := [z0j.e K, q1i.e K] } 129 Tryz.func129 ⟨sh1b, hs9d, sh34, hs9d⟩ [] (fun x => f K x.1.2 x.2.1.2 x.2.2.1.1 x.2.2.1.2) (fun x r => (r.1, ((), r.2.1), (x.2.2.1.1, r.2.2), ())) fun x => by
  rw [q0b, f]
  try simp only [el]
  kernel_rfl
end q41
namespace q2g
noncomputable def X (K : Nat) : Fx M 2 := { hmx := mxd, nt := 45, cs := [q3t.e K, q23.e K, q41.e K] }
noncomputable def l1.f (K : Nat) : Nat → Int → Int → Int → Err → List Int → Int → List (List Int) → Option (Err × Int × List (List Int))
  | 0, _, _, _, _, _, _, _ => none
  | k + 1, a1, a2, a3, a4, a5, a6, a13 => bif decide (a3 < a2) then (q41.f K a1 a4 a5 a6).bind fun t => bif (a13.length + [t.1].length).ble (1000000 : Nat) then l1.f K k a1 a2 (IntKind.i64.wrap (a3 + (1 : Int))) t.2.1 a5 t.2.2 (a13 ++ [t.1]) else none else some (a4, a6, a13)
noncomputable def l1.b (K : Nat) : Lp M 2 := q2d (X K) 9 45 2 (q0o Tryz.f74 1) ⟨[0, 1, 2, 6, 7, 26, 27], sha2, hsa3⟩ ⟨[0, 1, 6, 7], (.cons (.ptr 0 0) (.cons (.ty yI) (.cons (.ptr 2 0) (.ptr 3 0)))), hsa3⟩ K [] (fun k (x : ((Unit × (Int × (Int × (Unit × (Unit × (Int × Int)))))) × ((Unit × Err) × (((List Int) × Int) × ((Bool × (Unit × (Unit × Unit))) × ((Bool × (Unit × (Unit × Unit))) × ((List q0d) × ((List (List Int)) × ((List Int) × ((List q0d) × ((List (List Int)) × ((List Int) × Unit)))))))))))) => l1.f K k x.1.2.2.1 x.1.2.2.2.2.2.1 x.1.2.2.2.2.2.2 x.2.1.2 x.2.2.1.1 x.2.2.1.2 x.2.2.2.2.2.2.2.2.2.1) (fun x r => (((), x.1.2.1, (), ()), ((), r.1), (x.2.2.1.1, r.2.1), x.2.2.2.1, x.2.2.2.2.1, x.2.2.2.2.2.1, x.2.2.2.2.2.2.1, x.2.2.2.2.2.2.2.1, x.2.2.2.2.2.2.2.2.1, r.2.2, x.2.2.2.2.2.2.2.2.2.2)) fun k (x : ((Unit × (Int × (Int × (Unit × (Unit × (Int × Int)))))) × ((Unit × Err) × (((List Int) × Int) × ((Bool × (Unit × (Unit × Unit))) × ((Bool × (Unit × (Unit × Unit))) × ((List q0d) × ((List (List Int)) × ((List Int) × ((List q0d) × ((List (List Int)) × ((List Int) × Unit)))))))))))) => by
  refine Eq.trans ?_ q0b.symm
  rw [l1.f]
  try simp only [el]
  kernel_rfl
noncomputable def l0.f (K : Nat) : Nat → Int → Int → Err → List Int → Int → List q0d → Option (Err × Int × List q0d)
  | 0, _, _, _, _, _, _ => none
  | k + 1, a2, a3, a4, a5, a6, a12 => bif decide (a3 < a2) then (q23.f K a4 a5 a6).bind fun t => bif (a12.length + [(t.1, (t.2.1, t.2.2.1), (t.2.2.2.1, t.2.2.2.2.1), t.2.2.2.2.2.1)].length).ble (1000000 : Nat) then l0.f K k a2 (IntKind.i64.wrap (a3 + (1 : Int))) t.2.2.2.2.2.2.1 a5 t.2.2.2.2.2.2.2 (a12 ++ [(t.1, (t.2.1, t.2.2.1), (t.2.2.2.1, t.2.2.2.2.1), t.2.2.2.2.2.1)]) else none else some (a4, a6, a12)
noncomputable def l0.b (K : Nat) : Lp M 2 := q2d (X K) 5 45 0 (q0o Tryz.f74 0) ⟨[0, 1, 2, 6, 7, 13, 14], sha2, hsa3⟩ ⟨[0, 1, 2, 6, 7], (.cons (.ptr 0 0) (.cons (.ty yI) (.cons (.ty yI) (.cons (.ptr 2 0) (.ptr 3 0))))), hsa3⟩ K [] (fun k (x : ((Unit × (Int × (Int × (Unit × (Unit × (Int × Int)))))) × ((Unit × Err) × (((List Int) × Int) × ((Bool × (Unit × (Unit × Unit))) × ((Bool × (Unit × (Unit × Unit))) × ((List q0d) × ((List (List Int)) × ((List Int) × ((List q0d) × ((List (List Int)) × ((List Int) × Unit)))))))))))) => l0.f K k x.1.2.2.2.2.2.1 x.1.2.2.2.2.2.2 x.2.1.2 x.2.2.1.1 x.2.2.1.2 x.2.2.2.2.2.2.2.2.1) (fun x r => (((), x.1.2.1, x.1.2.2.1, (), ()), ((), r.1), (x.2.2.1.1, r.2.1), x.2.2.2.1, x.2.2.2.2.1, x.2.2.2.2.2.1, x.2.2.2.2.2.2.1, x.2.2.2.2.2.2.2.1, r.2.2, x.2.2.2.2.2.2.2.2.2)) fun k (x : ((Unit × (Int × (Int × (Unit × (Unit × (Int × Int)))))) × ((Unit × Err) × (((List Int) × Int) × ((Bool × (Unit × (Unit × Unit))) × ((Bool × (Unit × (Unit × Unit))) × ((List q0d) × ((List (List Int)) × ((List Int) × ((List q0d) × ((List (List Int)) × ((List Int) × Unit)))))))))))) => by
  refine Eq.trans ?_ q0b.symm
  rw [l0.f]
  try simp only [el]
  kernel_rfl
noncomputable def f (K : Nat) (a0 : Int) (a1 : Int) (a2 : Err) (a3 : List Int) (a4 : Int) : Option (Bool × List q0d × List (List Int) × List Int × Err × Int) := (q3t.f K (1 : Int) a2 a3 a4).bind fun t => bif t.1 == (1 : Int) then (l0.f K K a0 (0 : Int) t.2.1 a3 t.2.2 []).bind fun t => (l1.f K K a1 a0 (0 : Int) t.1 a3 t.2.1 []).bind fun t_1 => (q41.f K a0 t_1.1 a3 t_1.2.1).bind fun t_2 => some (true, t.2.2, t_1.2.2, t_2.1, t_2.2.1, t_2.2.2) else (q41.f K a0 t.2.1 a3 t.2.2).bind fun t => some (false, [], [], t.1, t.2.1, t.2.2)
noncomputable def e (K : Nat) : En M := fnE (X K) 74 Tryz.func74 ⟨sh17, hs9d, (.agg (.cons (.ty .bool) (.cons (.ty (.slice q02)) (.cons (.ty (.slice (.slice yI))) (.ty (.slice yI)))))), hs9d⟩ [l0.b K, l1.b K] (fun x => f K x.1.2.1 x.1.2.2 x.2.1.2 x.2.2.1.1 x.2.2.1.2) (fun x r => ((r.1, r.2.1, r.2.2.1, r.2.2.2.1), ((), r.2.2.2.2.1), (x.2.2.1.1, r.2.2.2.2.2), ())) fun x => by
  rw [q0b, f]
  try simp only [el]
  kernel_rfl
end q2g
namespace q4x
noncomputable def f (K : Nat) (a0 : Err) (a1 : List Int) (a2 : Int) : Option (Err) := bif bif false then !a0.isNil else a0.isNil then (q4h.f K a1 a2).bind fun t => q1i.f K t a0 else some a0
noncomputable def e (K : Nat) : En M := fnE (m := 2) { hmx := mxd, nt := 14, cs := [q4h.e K, q1i.e K] } 23 Tryz.func23 ⟨(.ptr 0 0), hs9d, .unit, hs9d⟩ [] (fun x => f K x.2.1.2 x.2.2.1.1 x.2.2.1.2) (fun x r => ((), ((), r), x.2.2)) fun x => by
  rw [q0b, f]
  try simp only [el]
  kernel_rfl
end q4x
namespace q2y
noncomputable def X (K : Nat) : Fx M 2 := { hmx := mxd, nt := 75, cs := [q2l.e K, q1i.e K, q3a.e K, q4v.e K, q2g.e K, q4x.e K] }
noncomputable def l0.f (K : Nat) : Nat → Int → List Int → Int → Int → Int → Err → List q0j → List Int → Int → Option (Err × List q0j × Int)
  | 0, _, _, _, _, _, _, _, _, _ => none
  | k + 1, a0, a1, a2, a3, a9, a28, a31, a32, a33 => bif decide (a3 < a2) then bif decide ((0 : Int) ≤ a3) && true then a1[a3.toNat]?.bind fun t => (q2g.f K a9 a0 a28 a32 a33).bind fun t_1 => bif decide ((0 : Int) ≤ t) then bif (Int.toNat t).blt a31.length then a31[Int.toNat t]?.bind fun t_2 => l0.f K k a0 a1 a2 (IntKind.i64.wrap (a3 + (1 : Int))) a9 t_1.2.2.2.2.1 (a31.set (Int.toNat t) ((t_1.1, t_1.2.1, t_1.2.2.1), t_1.2.2.2.1)) a32 t_1.2.2.2.2.2 else none else none else none else some (a28, a31, a33)
noncomputable def l0.b (K : Nat) : Lp M 2 := q2d (X K) 11 75 0 (q0o Tryz.f21 0) ⟨[0, 3, 5, 8, 9, 12, 50, 51, 52], (.cons (.ptr 0 0) (.cons (.ty yI) (.cons (.ptr 2 0) (.cons (.ptr 3 0) (.cons (.ptr 4 0) (.cons (.ptr 5 0) (.cons (.ty (.slice yI)) (.cons (.ty yI) (.ty yI))))))))), [hh9c, hh6d, hh63, .cells 83 0 (.cons (.ty .bool) (.cons (.own 6) (.cons (.ty .bool) (.cons (.ty yI) (.cons (.ty .bool) (.cons (.ty yI) (.cons (.ty yI) (.cons (.ty yI) (.cons (.ty yI) (.own 7)))))))))), .cells 83 0 (.cons (.ty .bool) (.cons (.ty (.slice q02)) (.cons (.ty .bool) (.cons (.ty yI) (.cons (.ty .bool) (.cons (.ty yI) (.cons (.ty yI) (.cons (.ty yI) (.cons (.ty yI) (.own 8)))))))))), .cells 65 0 (.cons (.ptr 9 0) (.ty .err)), .list 74 q02 [], .list 111 q1g [], .list 111 q1g [], hh6d]⟩ ⟨[0, 8, 9, 12], (.cons (.ptr 0 0) (.cons (.ptr 2 0) (.cons (.ptr 3 0) (.ptr 4 0)))), [hh9c, hh6d, .cells 83 0 (.cons (.ty .bool) (.cons (.own 5) (.cons (.ty .bool) (.cons (.ty yI) (.cons (.ty .bool) (.cons (.ty yI) (.cons (.ty yI) (.cons (.ty yI) (.cons (.ty yI) (.own 6)))))))))), .cells 83 0 (.cons (.ty .bool) (.cons (.ty (.slice q02)) (.cons (.ty .bool) (.cons (.ty yI) (.cons (.ty .bool) (.cons (.ty yI) (.cons (.ty yI) (.cons (.ty yI) (.cons (.ty yI) (.own 7)))))))))), .cells 65 0 (.cons (.ptr 8 0) (.ty .err)), .list 74 q02 [], .list 111 q1g [], .list 111 q1g [], hh6d]⟩ K [] (fun k (x : ((Unit × (Int × (Unit × (Unit × (Unit × (Unit × ((List Int) × (Int × Int)))))))) × ((Unit × Err) × (((List Int) × Int) × ((ByteArray × (Int × (Int × (List q1k)))) × ((Bool × (Unit × (Bool × (Int × (Bool × (Int × (Int × (Int × (Int × Unit))))))))) × ((Bool × ((List q0d) × (Bool × (Int × (Bool × (Int × (Int × (Int × (Int × Unit))))))))) × ((Unit × Err) × ((List q0d) × ((List q0j) × ((List q0j) × (((List Int) × Int) × Unit)))))))))))) => l0.f K k x.1.2.1 x.1.2.2.2.2.2.2.1 x.1.2.2.2.2.2.2.2.1 x.1.2.2.2.2.2.2.2.2 x.2.2.2.1.2.2.1 x.2.2.2.2.2.2.1.2 x.2.2.2.2.2.2.2.2.2.1 x.2.2.2.2.2.2.2.2.2.2.1.1 x.2.2.2.2.2.2.2.2.2.2.1.2) (fun x r => (((), (), (), ()), x.2.1, x.2.2.1, x.2.2.2.2.1, x.2.2.2.2.2.1, ((), r.1), x.2.2.2.2.2.2.2.1, x.2.2.2.2.2.2.2.2.1, r.2.1, (x.2.2.2.2.2.2.2.2.2.2.1.1, r.2.2), ())) fun k (x : ((Unit × (Int × (Unit × (Unit × (Unit × (Unit × ((List Int) × (Int × Int)))))))) × ((Unit × Err) × (((List Int) × Int) × ((ByteArray × (Int × (Int × (List q1k)))) × ((Bool × (Unit × (Bool × (Int × (Bool × (Int × (Int × (Int × (Int × Unit))))))))) × ((Bool × ((List q0d) × (Bool × (Int × (Bool × (Int × (Int × (Int × (Int × Unit))))))))) × ((Unit × Err) × ((List q0d) × ((List q0j) × ((List q0j) × (((List Int) × Int) × Unit)))))))))))) => by
  refine Eq.trans ?_ q0b.symm
  rw [l0.f]
  try simp only [el]
  kernel_rfl
noncomputable def f (K : Nat) (a1 : Int) (a2 : Int) (a3 : List q1k) (a4 : Bool) (a5 : Int) (a6 : Err) (a7 : List Int) (a8 : Int) : Option (Bool × List q0d × Bool × Int × Bool × Int × Int × Int × Int × List q0j × Err × Int) := bif decide ((↑a3.length : Int) ≤ (1000000 : Int)) && (↑a3.length : Int) == (↑a3.length : Int) && true && true && true then bif bif true then !a6.isNil else a6.isNil then some (false, [], false, (0 : Int), false, (0 : Int), (0 : Int), (0 : Int), (0 : Int), List.replicate (↑a3.length : Int).toNat ((false, [], []), []), a6, a8) else (q2l.f K a7 a8).bind fun t => bif bif true then !t.1.isNil else t.1.isNil then (q1i.f K t.1 a6).bind fun t_1 => some (false, [], false, (0 : Int), false, (0 : Int), (0 : Int), (0 : Int), (0 : Int), List.replicate (↑a3.length : Int).toNat ((false, [], []), []), t_1, t.2.1) else (q3a.f K a1 Err.nil t.2.2.1 t.2.2.2).bind fun t_1 => (q4v.f K a3 a4).bind fun t_2 => (l0.f K K a5 t_2 (↑t_2.length : Int) (0 : Int) a2 t_1.2.2.2.2.2.2.2.2.2.1 (List.replicate (↑a3.length : Int).toNat ((false, [], []), [])) t.2.2.1 t_1.2.2.2.2.2.2.2.2.2.2).bind fun t_3 => (q4x.f K t_3.1 t.2.2.1 t_3.2.2).bind fun t_4 => (q1i.f K t_4 a6).bind fun t_5 => some (t_1.1, t_1.2.1, t_1.2.2.1, t_1.2.2.2.1, t_1.2.2.2.2.1, t_1.2.2.2.2.2.1, t_1.2.2.2.2.2.2.1, t_1.2.2.2.2.2.2.2.1, t_1.2.2.2.2.2.2.2.2.1, t_3.2.1, t_5, t.2.1) else none
noncomputable def e (K : Nat) : En M := fnE (X K) 21 Tryz.func21 ⟨(.cons (.ptr 0 0) (.cons (.agg (.cons (.ty .str) (.cons (.ty yI) (.cons (.ty yI) (.ty (.slice q3f)))))) (.cons (.ty .bool) (.ty yI)))), hs9d, (.agg (.cons (.ty .bool) (.cons (.ty (.slice q02)) (.cons (.ty .bool) (.cons (.ty yI) (.cons (.ty .bool) (.cons (.ty yI) (.cons (.ty yI) (.cons (.ty yI) (.cons (.ty yI) (.ty (.slice q1g)))))))))))), hs9d⟩ [l0.b K] (fun (x : ((Unit × ((ByteArray × (Int × (Int × (List q1k)))) × (Bool × Int))) × ((Unit × Err) × (((List Int) × Int) × Unit)))) => f K x.1.2.1.2.1 x.1.2.1.2.2.1 x.1.2.1.2.2.2 x.1.2.2.1 x.1.2.2.2 x.2.1.2 x.2.2.1.1 x.2.2.1.2) (fun x r => ((r.1, r.2.1, r.2.2.1, r.2.2.2.1, r.2.2.2.2.1, r.2.2.2.2.2.1, r.2.2.2.2.2.2.1, r.2.2.2.2.2.2.2.1, r.2.2.2.2.2.2.2.2.1, r.2.2.2.2.2.2.2.2.2.1), ((), r.2.2.2.2.2.2.2.2.2.2.1), (x.2.2.1.1, r.2.2.2.2.2.2.2.2.2.2.2), ())) fun (x : ((Unit × ((ByteArray × (Int × (Int × (List q1k)))) × (Bool × Int))) × ((Unit × Err) × (((List Int) × Int) × Unit)))) => by
  refine Eq.trans ?_ q0b.symm
  rw [f]
  try simp only [el]
  kernel_rfl
end q2y
namespace q3q
noncomputable def X (K : Nat) : Fx M 0 := { hmx := mxd, nt := 95, cs := [q9w.e K, q5d.e K, q59.e K, q23.e K, q2y.e K, q3a.e K, q4x.e K] }
noncomputable def l2.f (K : Nat) : Nat → List q0h → Int → Int → Err → List Int → Int → List LSum → Option (Err × Int × List LSum)
  | 0, _, _, _, _, _, _, _ => none
  | k + 1, a1, a2, a3, a4, a14, a15, a18 => bif decide (a3 < a2) then bif decide ((0 : Int) ≤ a3) && true then a1[a3.toNat]?.bind fun t => (q3a.f K t.2 a4 a14 a15).bind fun t => bif (a18.length + [(t.1, t.2.1, t.2.2.1, t.2.2.2.1, (t.2.2.2.2.1, t.2.2.2.2.2.1), (t.2.2.2.2.2.2.1, t.2.2.2.2.2.2.2.1), t.2.2.2.2.2.2.2.2.1)].length).ble (1000000 : Nat) then l2.f K k a1 a2 (IntKind.i64.wrap (a3 + (1 : Int))) t.2.2.2.2.2.2.2.2.2.1 a14 t.2.2.2.2.2.2.2.2.2.2 (a18 ++ [(t.1, t.2.1, t.2.2.1, t.2.2.2.1, (t.2.2.2.2.1, t.2.2.2.2.2.1), (t.2.2.2.2.2.2.1, t.2.2.2.2.2.2.2.1), t.2.2.2.2.2.2.2.2.1)]) else none else none else some (a4, a15, a18)
noncomputable def l2.b (K : Nat) : Lp M 0 := q2d (X K) 16 95 4 (q0o Tryz.f6 2) ⟨[2, 3, 6, 7, 8, 9, 63, 64, 65], (.cons (.ptr 0 0) (.cons (.ptr 1 0) (.cons (.ptr 2 0) (.cons (.ptr 3 0) (.cons (.ty .bool) (.cons (.ptr 4 0) (.cons (.ty (.slice q2f)) (.cons (.ty yI) (.ty yI))))))))), hsa4⟩ ⟨[2, 3, 6, 7, 8, 9], sha5, hsa4⟩ K [] (fun k (x : ((Unit × (Unit × (Unit × (Unit × (Bool × (Unit × ((List q0h) × (Int × Int)))))))) × ((Unit × (Unit × Unit)) × ((Unit × (Unit × Unit)) × ((Unit × Err) × (((List Int) × ((List q0t) × (List q0h))) × ((Unit × (Unit × Unit)) × ((List Int) × ((List q0t) × ((List q0h) × ((List q0d) × ((List q0l) × ((List LSum) × (((List Int) × Int) × ((List q0d) × ((List q0l) × ((List LSum) × Unit))))))))))))))))) => l2.f K k x.1.2.2.2.2.2.2.1 x.1.2.2.2.2.2.2.2.1 x.1.2.2.2.2.2.2.2.2 x.2.2.2.1.2 x.2.2.2.2.2.2.2.2.2.2.2.2.1.1 x.2.2.2.2.2.2.2.2.2.2.2.2.1.2 x.2.2.2.2.2.2.2.2.2.2.2.2.2.2.2.1) (fun x r => (((), (), (), (), x.1.2.2.2.2.1, ()), ((), (), ()), ((), (), ()), ((), r.1), x.2.2.2.2.1, ((), (), ()), x.2.2.2.2.2.2.1, x.2.2.2.2.2.2.2.1, x.2.2.2.2.2.2.2.2.1, x.2.2.2.2.2.2.2.2.2.1, x.2.2.2.2.2.2.2.2.2.2.1, x.2.2.2.2.2.2.2.2.2.2.2.1, (x.2.2.2.2.2.2.2.2.2.2.2.2.1.1, r.2.1), x.2.2.2.2.2.2.2.2.2.2.2.2.2.1, x.2.2.2.2.2.2.2.2.2.2.2.2.2.2.1, r.2.2, ())) fun k (x : ((Unit × (Unit × (Unit × (Unit × (Bool × (Unit × ((List q0h) × (Int × Int)))))))) × ((Unit × (Unit × Unit)) × ((Unit × (Unit × Unit)) × ((Unit × Err) × (((List Int) × ((List q0t) × (List q0h))) × ((Unit × (Unit × Unit)) × ((List Int) × ((List q0t) × ((List q0h) × ((List q0d) × ((List q0l) × ((List LSum) × (((List Int) × Int) × ((List q0d) × ((List q0l) × ((List LSum) × Unit))))))))))))))))) => by
  refine Eq.trans ?_ q0b.symm
  rw [l2.f]
  try simp only [el]
  kernel_rfl
noncomputable def l1.f (K : Nat) : Nat → Bool → Int → List q0t → Int → Int → Err → List Int → Int → List q0l → Option (Err × Int × List q0l)
  | 0, _, _, _, _, _, _, _, _, _ => none
  | k + 1, a0, a1, a2, a3, a4, a5, a15, a16, a18 => bif decide (a4 < a3) then bif decide ((0 : Int) ≤ a4) && true then a2[a4.toNat]?.bind fun t => (q2y.f K t.2.1 t.2.2.1 t.2.2.2 a0 a1 a5 a15 a16).bind fun t => bif (a18.length + [((t.1, t.2.1, t.2.2.1, t.2.2.2.1, (t.2.2.2.2.1, t.2.2.2.2.2.1), (t.2.2.2.2.2.2.1, t.2.2.2.2.2.2.2.1), t.2.2.2.2.2.2.2.2.1), t.2.2.2.2.2.2.2.2.2.1)].length).ble (1000000 : Nat) then l1.f K k a0 a1 a2 a3 (IntKind.i64.wrap (a4 + (1 : Int))) t.2.2.2.2.2.2.2.2.2.2.1 a15 t.2.2.2.2.2.2.2.2.2.2.2 (a18 ++ [((t.1, t.2.1, t.2.2.1, t.2.2.2.1, (t.2.2.2.2.1, t.2.2.2.2.2.1), (t.2.2.2.2.2.2.1, t.2.2.2.2.2.2.2.1), t.2.2.2.2.2.2.2.2.1), t.2.2.2.2.2.2.2.2.2.1)]) else none else none else some (a5, a16, a18)
noncomputable def l1.b (K : Nat) : Lp M 0 := q2d (X K) 11 95 2 (q0o Tryz.f6 1) ⟨[2, 3, 6, 7, 8, 9, 10, 45, 46, 47], (.cons (.ptr 0 0) (.cons (.ptr 1 0) (.cons (.ptr 2 0) (.cons (.ptr 3 0) (.cons (.ty .bool) (.cons (.ptr 4 0) (.cons (.ty yI) (.cons (.ty (.slice q30)) (.cons (.ty yI) (.ty yI)))))))))), hsa4⟩ ⟨[2, 3, 6, 7, 8, 9], sha5, hsa4⟩ K [] (fun k (x : ((Unit × (Unit × (Unit × (Unit × (Bool × (Unit × (Int × ((List q0t) × (Int × Int))))))))) × ((Unit × (Unit × Unit)) × ((Unit × (Unit × Unit)) × ((Unit × Err) × (((List Int) × ((List q0t) × (List q0h))) × ((Unit × (Unit × Unit)) × ((List Int) × ((List q0t) × ((List q0h) × ((List q0d) × ((List q0l) × ((List LSum) × (((List Int) × Int) × ((List q0d) × ((List q0l) × ((List LSum) × Unit))))))))))))))))) => l1.f K k x.1.2.2.2.2.1 x.1.2.2.2.2.2.2.1 x.1.2.2.2.2.2.2.2.1 x.1.2.2.2.2.2.2.2.2.1 x.1.2.2.2.2.2.2.2.2.2 x.2.2.2.1.2 x.2.2.2.2.2.2.2.2.2.2.2.2.1.1 x.2.2.2.2.2.2.2.2.2.2.2.2.1.2 x.2.2.2.2.2.2.2.2.2.2.2.2.2.2.1) (fun x r => (((), (), (), (), x.1.2.2.2.2.1, ()), ((), (), ()), ((), (), ()), ((), r.1), x.2.2.2.2.1, ((), (), ()), x.2.2.2.2.2.2.1, x.2.2.2.2.2.2.2.1, x.2.2.2.2.2.2.2.2.1, x.2.2.2.2.2.2.2.2.2.1, x.2.2.2.2.2.2.2.2.2.2.1, x.2.2.2.2.2.2.2.2.2.2.2.1, (x.2.2.2.2.2.2.2.2.2.2.2.2.1.1, r.2.1), x.2.2.2.2.2.2.2.2.2.2.2.2.2.1, r.2.2, x.2.2.2.2.2.2.2.2.2.2.2.2.2.2.2)) fun k (x : ((Unit × (Unit × (Unit × (Unit × (Bool × (Unit × (Int × ((List q0t) × (Int × Int))))))))) × ((Unit × (Unit × Unit)) × ((Unit × (Unit × Unit)) × ((Unit × Err) × (((List Int) × ((List q0t) × (List q0h))) × ((Unit × (Unit × Unit)) × ((List Int) × ((List q0t) × ((List q0h) × ((List q0d) × ((List q0l) × ((List LSum) × (((List Int) × Int) × ((List q0d) × ((List q0l) × ((List LSum) × Unit))))))))))))))))) => by
  refine Eq.trans ?_ q0b.symm
  rw [l1.f]
  try simp only [el]
  kernel_rfl
noncomputable def l0.f (K : Nat) : Nat → Int → Int → Err → List Int → Int → List q0d → Option (Err × Int × List q0d)
  | 0, _, _, _, _, _, _ => none
  | k + 1, a2, a3, a4, a14, a15, a16 => bif decide (a3 < a2) then (q23.f K a4 a14 a15).bind fun t => bif (a16.length + [(t.1, (t.2.1, t.2.2.1), (t.2.2.2.1, t.2.2.2.2.1), t.2.2.2.2.2.1)].length).ble (1000000 : Nat) then l0.f K k a2 (IntKind.i64.wrap (a3 + (1 : Int))) t.2.2.2.2.2.2.1 a14 t.2.2.2.2.2.2.2 (a16 ++ [(t.1, (t.2.1, t.2.2.1), (t.2.2.2.1, t.2.2.2.2.1), t.2.2.2.2.2.1)]) else none else some (a4, a15, a16)
noncomputable def l0.b (K : Nat) : Lp M 0 := q2d (X K) 7 95 0 (q0o Tryz.f6 0) ⟨[2, 3, 6, 7, 8, 9, 10, 33, 34], (.cons (.ptr 0 0) (.cons (.ptr 1 0) (.cons (.ptr 2 0) (.cons (.ptr 3 0) (.cons (.ty .bool) (.cons (.ptr 4 0) (.cons (.ty yI) (.cons (.ty yI) (.ty yI))))))))), hsa4⟩ ⟨[2, 3, 6, 7, 8, 9, 10], (.cons (.ptr 0 0) (.cons (.ptr 1 0) (.cons (.ptr 2 0) (.cons (.ptr 3 0) (.cons (.ty .bool) (.cons (.ptr 4 0) (.ty yI))))))), hsa4⟩ K [] (fun k (x : ((Unit × (Unit × (Unit × (Unit × (Bool × (Unit × (Int × (Int × Int)))))))) × ((Unit × (Unit × Unit)) × ((Unit × (Unit × Unit)) × ((Unit × Err) × (((List Int) × ((List q0t) × (List q0h))) × ((Unit × (Unit × Unit)) × ((List Int) × ((List q0t) × ((List q0h) × ((List q0d) × ((List q0l) × ((List LSum) × (((List Int) × Int) × ((List q0d) × ((List q0l) × ((List LSum) × Unit))))))))))))))))) => l0.f K k x.1.2.2.2.2.2.2.2.1 x.1.2.2.2.2.2.2.2.2 x.2.2.2.1.2 x.2.2.2.2.2.2.2.2.2.2.2.2.1.1 x.2.2.2.2.2.2.2.2.2.2.2.2.1.2 x.2.2.2.2.2.2.2.2.2.2.2.2.2.1) (fun x r => (((), (), (), (), x.1.2.2.2.2.1, (), x.1.2.2.2.2.2.2.1), ((), (), ()), ((), (), ()), ((), r.1), x.2.2.2.2.1, ((), (), ()), x.2.2.2.2.2.2.1, x.2.2.2.2.2.2.2.1, x.2.2.2.2.2.2.2.2.1, x.2.2.2.2.2.2.2.2.2.1, x.2.2.2.2.2.2.2.2.2.2.1, x.2.2.2.2.2.2.2.2.2.2.2.1, (x.2.2.2.2.2.2.2.2.2.2.2.2.1.1, r.2.1), r.2.2, x.2.2.2.2.2.2.2.2.2.2.2.2.2.2)) fun k (x : ((Unit × (Unit × (Unit × (Unit × (Bool × (Unit × (Int × (Int × Int)))))))) × ((Unit × (Unit × Unit)) × ((Unit × (Unit × Unit)) × ((Unit × Err) × (((List Int) × ((List q0t) × (List q0h))) × ((Unit × (Unit × Unit)) × ((List Int) × ((List q0t) × ((List q0h) × ((List q0d) × ((List q0l) × ((List LSum) × (((List Int) × Int) × ((List q0d) × ((List q0l) × ((List LSum) × Unit))))))))))))))))) => by
  refine Eq.trans ?_ q0b.symm
  rw [l0.f]
  try simp only [el]
  kernel_rfl
noncomputable def f (K : Nat) (a0 : List Int) : Option (List Int × List q0t × List q0h × List q0d × List q0l × List LSum × Bool × Err) := (q9w.f K a0).bind fun t => (q5d.f K Err.nil t.1 t.2).bind fun t_1 => bif bif false then !t_1.2.2.2.2.1.isNil else t_1.2.2.2.2.1.isNil then (q59.f K t_1.2.1).bind fun t_2 => (l0.f K K (↑t_1.1.length : Int) (0 : Int) t_1.2.2.2.2.1 t.1 t_1.2.2.2.2.2 []).bind fun t_3 => (l1.f K K t_1.2.2.2.1 t_2 t_1.2.1 (↑t_1.2.1.length : Int) (0 : Int) t_3.1 t.1 t_3.2.1 []).bind fun t_4 => (l2.f K K t_1.2.2.1 (↑t_1.2.2.1.length : Int) (0 : Int) t_4.1 t.1 t_4.2.1 []).bind fun t_5 => (q4x.f K t_5.1 t.1 t_5.2.1).bind fun t => bif bif true then !t.isNil else t.isNil then some ([], [], [], [], [], [], false, t) else some (t_1.1, t_1.2.1, t_1.2.2.1, t_3.2.2, t_4.2.2, t_5.2.2, t_1.2.2.2.1, Err.nil) else bif bif true then !t_1.2.2.2.2.1.isNil else t_1.2.2.2.2.1.isNil then some ([], [], [], [], [], [], false, t_1.2.2.2.2.1) else some (t_1.1, t_1.2.1, t_1.2.2.1, [], [], [], t_1.2.2.2.1, Err.nil)
noncomputable def e (K : Nat) : En M := fnE (X K) 6 Tryz.func6 ⟨sh69, [], (.cons (.agg (.cons (.ty (.slice yI)) (.cons (.ty (.slice q30)) (.ty (.slice q2f))))) (.cons (.agg (.cons (.ty (.slice q02)) (.cons (.ty (.slice q1r)) (.ty (.slice ySum))))) (.cons (.ty .bool) (.ty .err)))), []⟩ [l0.b K, l1.b K, l2.b K] (fun x => f K x.1) (fun x r => (((r.1, r.2.1, r.2.2.1), (r.2.2.2.1, r.2.2.2.2.1, r.2.2.2.2.2.1), r.2.2.2.2.2.2.1, r.2.2.2.2.2.2.2), ())) fun x => by
  rw [q0b, f]
  try simp only [el]
  kernel_rfl
end q3q
namespace q2o
noncomputable def X (K : Nat) : Fx M 0 := { hmx := mxd, nt := 26, cs := [] }
noncomputable def l0.f (K : Nat) : Nat → List Int → List Int → Int → Int → Option ((Unit) ⊕ (Bool))
  | 0, _, _, _, _ => none
  | k + 1, a0, a1, a2, a3 => bif decide (a3 < a2) then bif decide ((0 : Int) ≤ a3) && true then a0[a3.toNat]?.bind fun t => bif decide ((0 : Int) ≤ a3) && true then a1[a3.toNat]?.bind fun t_1 => bif t != t_1 then some (Sum.inr false) else l0.f K k a0 a1 a2 (IntKind.i64.wrap (a3 + (1 : Int))) else none else none else some (Sum.inl ())
noncomputable def l0.b (K : Nat) : Lp M 0 := q37 (X K) 4 26 0 (q0o Tryz.f43 0) ⟨[0, 1, 12, 13], sha7, []⟩ ss13 ss94 K [] (fun k x => l0.f K k x.1.1 x.1.2.1 x.1.2.2.1 x.1.2.2.2) (fun x r => ((), ())) (fun x r => (r, ())) fun k x => by
  rw [q0b, l0.f]
  try simp only [el]
  kernel_rfl
noncomputable def f (K : Nat) (a0 : List Int) (a1 : List Int) : Option (Bool) := bif (↑a0.length : Int) != (↑a1.length : Int) then some false else (l0.f K K a0 a1 (↑a0.length : Int) (0 : Int)).bind fun t => Sum.elim (fun t => some true) (fun t => some t) t
noncomputable def e (K : Nat) : En M := fnE (X K) 43 Tryz.func43 ⟨sha6, [], (.ty .bool), []⟩ [l0.b K] (fun x => f K x.1.1 x.1.2) (fun x r => (r, ())) fun x => by
  rw [q0b, f]
  try simp only [el]
  kernel_rfl
end q2o
namespace q1t
noncomputable def X (K : Nat) : Fx M 0 := { hmx := mxd, nt := 26, cs := [] }
noncomputable def l0.f (K : Nat) : Nat → List q0h → List q0h → Int → Int → Option ((Unit) ⊕ (Bool))
  | 0, _, _, _, _ => none
  | k + 1, a0, a1, a2, a3 => bif decide (a3 < a2) then bif decide ((0 : Int) ≤ a3) && true then a0[a3.toNat]?.bind fun t => bif decide ((0 : Int) ≤ a3) && true then a1[a3.toNat]?.bind fun t_1 => bif bif true then !(t.1 == t_1.1 && t.2 == t_1.2) else t.1 == t_1.1 && t.2 == t_1.2 then some (Sum.inr false) else l0.f K k a0 a1 a2 (IntKind.i64.wrap (a3 + (1 : Int))) else none else none else some (Sum.inl ())
noncomputable def l0.b (K : Nat) : Lp M 0 := q37 (X K) 4 26 0 (q0o Tryz.f44 0) ⟨[0, 1, 12, 13], (.cons (.ty (.slice q2f)) (.cons (.ty (.slice q2f)) (.cons (.ty yI) (.ty yI)))), []⟩ ss13 ss94 K [] (fun k x => l0.f K k x.1.1 x.1.2.1 x.1.2.2.1 x.1.2.2.2) (fun x r => ((), ())) (fun x r => (r, ())) fun k x => by
  rw [q0b, l0.f]
  try simp only [el]
  kernel_rfl
noncomputable def f (K : Nat) (a0 : List q0h) (a1 : List q0h) : Option (Bool) := bif (↑a0.length : Int) != (↑a1.length : Int) then some false else (l0.f K K a0 a1 (↑a0.length : Int) (0 : Int)).bind fun t => Sum.elim (fun t => some true) (fun t => some t) t
noncomputable def e (K : Nat) : En M := fnE (X K) 44 Tryz.func44 ⟨(.cons (.ty (.slice q2f)) (.ty (.slice q2f))), [], (.ty .bool), []⟩ [l0.b K] (fun x => f K x.1.1 x.1.2) (fun x r => (r, ())) fun x => by
  rw [q0b, f]
  try simp only [el]
  kernel_rfl
end q1t
end
end Go.Proofs.YtdjkdmjdcdljmaaGreatDoor.AF
