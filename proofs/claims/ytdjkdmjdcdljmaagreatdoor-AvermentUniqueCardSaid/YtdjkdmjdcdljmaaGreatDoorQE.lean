/- The law AvermentUnique, in parts: this text is packed by program (names shortened). No condition. -/
import Derived.Test.YtdjkdmjdcdljmaaGreatDoorQD
import Derived.Test.YtdjkdmjdcdljmaaGreatDoorQC
import Derived.KernelRfl
set_option linter.unusedVariables false
set_option linter.unusedSimpArgs false
set_option linter.unusedSectionVars false
namespace Go.Proofs.YtdjkdmjdcdljmaaGreatDoor.AU
open Go.Proofs.YtdjkdmjdcdljmaaGreatDoorY
noncomputable section
set_option maxRecDepth 1000000
set_option maxHeartbeats 4000000
namespace ir_Copy
noncomputable def X (K : Nat) : Fx M 0 := { hmx := mxd, nt := 29, cs := [q0h.e K, q0c.e K, q83.e K] }
noncomputable def l0.f (K : Nat) : Nat → List q0x → Int → Int → List q0x → Option (List q0x)
  | 0, _, _, _, _ => none
  | k + 1, a0, a1, a2, a7 => bif decide (a2 < a1) then bif decide ((0 : Int) ≤ a2) && true then a0[a2.toNat]?.bind fun t => (q83.f K t.2.2.2).bind fun t_1 => bif (a7.length + [(t.1, t.2.1, t.2.2.1, t_1)].length).ble (4000000 : Nat) then l0.f K k a0 a1 (IntKind.i64.wrap (a2 + (1 : Int))) (a7 ++ [(t.1, t.2.1, t.2.2.1, t_1)]) else none else none else some a7
noncomputable def l0.b (K : Nat) : Lp M 0 := q24 (X K) 3 29 0 (q01 Tryz.f80 0) ⟨[2, 3, 14, 15, 16], sh3c, hs3a⟩ ⟨[2, 3], sh1c, hs3a⟩ K [] (fun k x => l0.f K k x.1.2.2.1 x.1.2.2.2.1 x.1.2.2.2.2 x.2.2.2.2.2.2.2.1) (fun x r => (((), ()), ((), (), ()), ((), (), ()), x.2.2.2.1, x.2.2.2.2.1, x.2.2.2.2.2.1, x.2.2.2.2.2.2.1, r, x.2.2.2.2.2.2.2.2)) fun k x => by
  rw [q0a, l0.f]
  try simp only [el]
  kernel_rfl
noncomputable def f (K : Nat) (a0 : List Int) (a1 : List q0x) (a2 : List q0g) : Option (List Int × List q0x × List q0g) := (q0h.f K a0).bind fun t => (q0c.f K a2).bind fun t_1 => (l0.f K K a1 (↑a1.length : Int) (0 : Int) []).bind fun t_2 => some (t, t_2, t_1)
noncomputable def e (K : Nat) : En M := fnE (X K) 80 Tryz.func80 ⟨sh13, [], sh13, []⟩ [l0.b K] (fun x => f K x.1.1 x.1.2.1 x.1.2.2) (fun x r => ((r.1, r.2.1, r.2.2), ())) fun x => by
  rw [q0a, f]
  try simp only [el]
  kernel_rfl
end ir_Copy
namespace z0i
noncomputable def X (K : Nat) : Fx M 0 := { hmx := mxd, nt := 29, cs := [q0h.e K, q0c.e K, q83.e K] }
noncomputable def l0.f (K : Nat) : Nat → List q0x → Int → Int → List q0x → Option (List q0x)
  | 0, _, _, _, _ => none
  | k + 1, a0, a1, a2, a7 => bif decide (a2 < a1) then bif decide ((0 : Int) ≤ a2) && true then a0[a2.toNat]?.bind fun t => (q83.f K t.2.2.2).bind fun t_1 => bif (a7.length + [(t.1, t.2.1, t.2.2.1, t_1)].length).ble (4000000 : Nat) then l0.f K k a0 a1 (IntKind.i64.wrap (a2 + (1 : Int))) (a7 ++ [(t.1, t.2.1, t.2.2.1, t_1)]) else none else none else some a7
noncomputable def l0.b (K : Nat) : Lp M 0 := q24 (X K) 3 29 0 (q01 Tryz.f80 0) ⟨[2, 3, 14, 15, 16], sh3c, hs3a⟩ ⟨[2, 3], sh1c, hs3a⟩ K [] (fun k x => l0.f K k x.1.2.2.1 x.1.2.2.2.1 x.1.2.2.2.2 x.2.2.2.2.2.2.2.1) (fun x r => (((), ()), ((), (), ()), ((), (), ()), x.2.2.2.1, x.2.2.2.2.1, x.2.2.2.2.2.1, x.2.2.2.2.2.2.1, r, x.2.2.2.2.2.2.2.2)) fun k x => by
  rw [q0a, l0.f]
  try simp only [el]
  kernel_rfl
noncomputable def f (K : Nat) (a0 : List Int) (a1 : List q0x) (a2 : List q0g) : Option (List Int × List q0x × List q0g) := (q0h.f K a0).bind fun t => (q0c.f K a2).bind fun t_1 => (l0.f K K a1 (↑a1.length : Int) (0 : Int) []).bind fun t_2 => some (t, t_2, t_1)
noncomputable def e (K : Nat) : En M := fnE (X K) 80 Tryz.func80 ⟨sh13, [], (.agg (.cons (.own 0) (.cons (.own 1) (.own 2)))), [.list 2 yI [], .list 78 q3x [], .list 86 q2h []]⟩ [l0.b K] (fun x => f K x.1.1 x.1.2.1 x.1.2.2) (fun x r => (((), (), ()), r.1, r.2.1, r.2.2, ())) fun x => by
  rw [q0a, f]
  try simp only [el]
  kernel_rfl
end z0i
namespace z6x
noncomputable def X (K : Nat) : Fx M 1 := { hmx := mxd, nt := 95, cs := [z0r.e K], rf := [(21, ⟨[3, 4, 7, 10, 20, 21, 22, 41, 42, 43], sh40, [.list 2 yI [], .cells 267 0 (.cons (.ty (.slice q3x)) (.cons (.own 4) (.own 5))), .list 270 q9k [], .cells 270 0 (.cons (.ty (.slice q6t)) (.cons (.ty (.slice yI)) (.cons (.ty yI) (.cons (.ty yI) (.cons (.ty yI) (.ty yI)))))), .list 268 (.slice q9k) [], .list 3 yI []]⟩)] }
noncomputable def l2.f (K : Nat) : Nat → Int → List q3n → Int → Int → List Int → Option (Int × List Int)
  | 0, _, _, _, _, _ => none
  | k + 1, a0, a7, a8, a9, a20 => bif decide (a9 < a8) then bif decide ((0 : Int) ≤ a9) && true then a7[a9.toNat]?.bind fun t => (z0r.f K t.1 t.2.1).bind fun t => bif t.2 then bif decide ((0 : Int) ≤ a9) then bif a9.toNat.blt a20.length then a20[a9.toNat]?.bind fun t => l2.f K k (IntKind.i64.wrap (a0 + (1 : Int))) a7 a8 (IntKind.i64.wrap (a9 + (1 : Int))) (a20.set a9.toNat a0) else none else none else l2.f K k a0 a7 a8 (IntKind.i64.wrap (a9 + (1 : Int))) a20 else none else some (a0, a20)
noncomputable def l2.b (K : Nat) : Lp M 1 := q24 (X K) 14 95 4 (q01 Tryz.f81 2) ⟨[3, 4, 7, 10, 20, 21, 22, 41, 42, 43, 57, 58, 59], (.cons (.ptr 1 0) (.cons (.ty yI) (.cons (.own 2) (.cons (.ptr 3 0) (.cons (.ty (.slice q3x)) (.cons (.ty yI) (.cons (.ty yI) (.cons (.ty (.slice q2r)) (.cons (.ty yI) (.cons (.ty yI) (.cons (.ty (.slice q6t)) (.cons (.ty yI) (.ty yI))))))))))))), hs41⟩ ⟨[3, 4, 7, 10, 20, 21, 22, 41, 42, 43], sh40, hs41⟩ K [] (fun k x => l2.f K k x.1.2.1 x.1.2.2.2.2.2.2.2.2.2.2.1 x.1.2.2.2.2.2.2.2.2.2.2.2.1 x.1.2.2.2.2.2.2.2.2.2.2.2.2 x.2.2.2.2.2.2.2.1) (fun x r => (((), r.1, (), (), x.1.2.2.2.2.1, x.1.2.2.2.2.2.1, x.1.2.2.2.2.2.2.1, x.1.2.2.2.2.2.2.2.1, x.1.2.2.2.2.2.2.2.2.1, x.1.2.2.2.2.2.2.2.2.2.1), x.2.1, x.2.2.1, x.2.2.2.1, x.2.2.2.2.1, x.2.2.2.2.2.1, x.2.2.2.2.2.2.1, r.2, ())) fun k x => by
  rw [q0a, l2.f]
  try simp only [el]
  kernel_rfl
noncomputable def l1.f (K : Nat) : Nat → Int → List q1m → Int → Int → List z9t → Option (Int × List z9t)
  | 0, _, _, _, _, _ => none
  | k + 1, a0, a4, a5, a6, a9 => bif decide (a6 < a5) then bif decide ((0 : Int) ≤ a6) && true then a4[a6.toNat]?.bind fun t => bif decide ((↑(List.length t.1) : Int) ≤ (4000000 : Int)) && (↑(List.length t.1) : Int) == (↑(List.length t.1) : Int) && true && true && true then (l2.f K K a0 t.1 (↑(List.length t.1) : Int) (0 : Int) (List.replicate (↑(List.length t.1) : Int).toNat (0 : Int))).bind fun t_1 => bif (a9.length + [(t.1, t_1.2, t.2.1, t.2.2.1, t.2.2.2.1, t.2.2.2.2)].length).ble (4000000 : Nat) then l1.f K k t_1.1 a4 a5 (IntKind.i64.wrap (a6 + (1 : Int))) (a9 ++ [(t.1, t_1.2, t.2.1, t.2.2.1, t.2.2.2.1, t.2.2.2.2)]) else none else none else none else some (a0, a9)
noncomputable def l1.b (K : Nat) : Lp M 1 := q24 (X K) 10 95 2 (q01 Tryz.f81 1) ⟨[3, 4, 7, 20, 21, 22, 41, 42, 43], (.cons (.ptr 1 0) (.cons (.ty yI) (.cons (.own 2) (.cons (.ty (.slice q3x)) (.cons (.ty yI) (.cons (.ty yI) (.cons (.ty (.slice q2r)) (.cons (.ty yI) (.ty yI))))))))), hs42⟩ ⟨[3, 4, 7, 20, 21, 22], (.cons (.ptr 1 0) (.cons (.ty yI) (.cons (.own 2) (.cons (.ty (.slice q3x)) (.cons (.ty yI) (.ty yI)))))), hs42⟩ K [l2.b K] (fun k x => l1.f K k x.1.2.1 x.1.2.2.2.2.2.2.1 x.1.2.2.2.2.2.2.2.1 x.1.2.2.2.2.2.2.2.2 x.2.2.2.1) (fun x r => (((), r.1, (), x.1.2.2.2.1, x.1.2.2.2.2.1, x.1.2.2.2.2.2.1), x.2.1, x.2.2.1, r.2, x.2.2.2.2)) fun k x => by
  rw [q0a, l1.f]
  try simp only [el]
  kernel_rfl
noncomputable def l0.f (K : Nat) : Nat → Int → List q0x → Int → Int → List (List z9t) → List Int → Option (List (List z9t) × List Int)
  | 0, _, _, _, _, _, _ => none
  | k + 1, a0, a1, a2, a3, a6, a7 => bif decide (a3 < a2) then bif decide ((0 : Int) ≤ a3) && true then a1[a3.toNat]?.bind fun t => bif (a7.length + [a0].length).ble (4000000 : Nat) then (l1.f K K (IntKind.i64.wrap (a0 + t.2.2.1)) t.2.2.2 (↑(List.length t.2.2.2) : Int) (0 : Int) []).bind fun t => bif (a6.length + [t.2].length).ble (4000000 : Nat) then l0.f K k t.1 a1 a2 (IntKind.i64.wrap (a3 + (1 : Int))) (a6 ++ [t.2]) (a7 ++ [a0]) else none else none else none else some (a6, a7)
noncomputable def l0.b (K : Nat) : Lp M 1 := q24 (X K) 4 95 0 (q01 Tryz.f81 0) ⟨[3, 4, 20, 21, 22], (.cons (.ptr 1 0) (.cons (.ty yI) (.cons (.ty (.slice q3x)) (.cons (.ty yI) (.ty yI))))), hs43⟩ ⟨[3], (.ptr 1 0), hs43⟩ K [l1.b K, l2.b K] (fun k x => l0.f K k x.1.2.1 x.1.2.2.1 x.1.2.2.2.1 x.1.2.2.2.2 x.2.2.2.1 x.2.2.2.2.1) (fun x r => ((), x.2.1, x.2.2.1, r.1, r.2, ())) fun k x => by
  rw [q0a, l0.f]
  try simp only [el]
  kernel_rfl
noncomputable def f (K : Nat) (a0 : List q0x) : Option (Option q5l) := (l0.f K K (0 : Int) a0 (↑a0.length : Int) (0 : Int) [] []).bind fun t => some (some (a0, t.1, t.2))
noncomputable def e (K : Nat) : En M := fnE (X K) 81 Tryz.func81 ⟨(.agg (.cons (.own 0) (.cons (.ty (.slice q3x)) (.ty (.slice q2h))))), [.list 2 yI []], (.ty (.ptr q9t)), [.list 2 yI []]⟩ [l0.b K, l1.b K, l2.b K] (fun x => f K x.1.2.1) (fun x r => (r, x.2)) fun x => by
  rw [q0a, f]
  try simp only [el]
  kernel_rfl
end z6x
namespace q4n
noncomputable def X (K : Nat) : Fx M 0 := { hmx := mxd, nt := 46, cs := [] }
noncomputable def l0.f (K : Nat) : Nat → Option q5l → Int → Int → Int → List Int → Option (List Int)
  | 0, _, _, _, _, _ => none
  | k + 1, a0, a1, a2, a3, a13 => bif decide (a3 < a2) then a0.bind fun t => bif decide ((0 : Int) ≤ a1) && true then t.2.2[a1.toNat]?.bind fun t => bif (a13.length + [IntKind.i64.wrap (t + a3)].length).ble (4000000 : Nat) then l0.f K k a0 a1 a2 (IntKind.i64.wrap (a3 + (1 : Int))) (a13 ++ [IntKind.i64.wrap (t + a3)]) else none else none else some a13
noncomputable def l0.b (K : Nat) : Lp M 0 := q24 (X K) 4 46 0 (q01 Tryz.f83 0) ⟨[0, 1, 6, 7, 26, 27], (.cons (.ty (.ptr q9t)) (.cons (.ty yI) (.cons (.ptr 0 0) (.cons (.ptr 1 0) (.cons (.ty yI) (.ty yI)))))), hs44⟩ ⟨[6, 7], sh1c, hs44⟩ K [] (fun k x => l0.f K k x.1.1 x.1.2.1 x.1.2.2.2.2.1 x.1.2.2.2.2.2 x.2.2.2.2.2.2.1) (fun x r => (((), ()), x.2.1, x.2.2.1, x.2.2.2.1, x.2.2.2.2.1, x.2.2.2.2.2.1, r, ())) fun k x => by
  rw [q0a, l0.f]
  try simp only [el]
  kernel_rfl
noncomputable def f (K : Nat) (a0 : Option q5l) (a1 : Int) (a2 : List Int) : Option (Int × Int × List Int × List Int) := a0.bind fun t => bif decide ((0 : Int) ≤ a1) && true then t.1[a1.toNat]?.bind fun t => bif decide ((0 : Int) ≤ t.2.2.1) && decide (t.2.2.1 ≤ (4000000 : Int)) && t.2.2.1 == t.2.2.1 && true && true && true then (l0.f K K a0 a1 (↑(List.take (List.replicate (Int.toNat t.2.2.1) (0 : Int)).length a2 ++ List.drop a2.length (List.replicate (Int.toNat t.2.2.1) (0 : Int))).length : Int) (0 : Int) []).bind fun t_1 => some ((0 : Int), (0 : Int), List.take (List.replicate (Int.toNat t.2.2.1) (0 : Int)).length a2 ++ List.drop a2.length (List.replicate (Int.toNat t.2.2.1) (0 : Int)), t_1) else none else none
noncomputable def e (K : Nat) : En M := fnE (X K) 83 Tryz.func83 ⟨(.cons (.ty (.ptr q9t)) (.cons (.ty yI) (.ty (.slice yI)))), [], (.agg (.cons (.ty yI) (.cons (.ty yI) (.cons (.ty yI) (.cons (.own 0) (.own 1)))))), [.list 2 yI [], .list 3 yI []]⟩ [l0.b K] (fun x => f K x.1.1 x.1.2.1 x.1.2.2) (fun x r => ((x.1.2.1, r.1, r.2.1, (), ()), r.2.2.1, r.2.2.2, ())) fun x => by
  rw [q0a, f]
  try simp only [el]
  kernel_rfl
end q4n
namespace z6v
noncomputable def X (K : Nat) : Fx M 0 := { hmx := mxd, nt := 62, cs := [q2g.e K, z0i.e K, z6x.e K, q0r.e K, q4n.e K], ad := [(83, [(0, 1), (1, 2)])], rf := [(10, ⟨[1, 2, 3, 4], (.cons (.ty yI) (.cons (.ty (.slice yI)) (.cons (.ty (.slice yI)) (.ptr 0 0)))), [hh17, .void 2 yI, .void 3 yI]⟩)], cp := [(6, [.bool], [24])] }
noncomputable def f (K : Nat) (a0 : List Int) (a1 : List q0x) (a2 : List q0g) (a3 : Int) (a4 : List Int) (a5 : List Int) : Option (Err × Option q5l × List Int × Int × Int × List Int × List Int × (List (Int × Int × Int × Nat × Nat)) × List (Option (List Int)) × List (Option (List Int))) := (q2g.f K a0 a1 a2).bind fun t => bif bif true then !t.isNil else t.isNil then none else bif decide ((↑a2.length : Int) > (0 : Int)) then none else q1g (bif decide (a3 < (0 : Int)) then some true else some (decide (a3 ≥ (↑a1.length : Int)))) fun t => bif t then none else bif decide ((0 : Int) ≤ a3) && true then a1[a3.toNat]?.bind fun t => bif (↑a4.length : Int) != t.2.1 then none else (z0i.f K a0 a1 a2).bind fun t => (z6x.f K t.2.1).bind fun t_1 => (q0r.f K a5).bind fun t_2 => (q4n.f K t_1 a3 a4).bind fun t_3 => some (Err.nil, t_1, t_2, (0 : Int), (0 : Int), t.1, [], [(a3, t_3.1, t_3.2.1, (0 : Nat), (0 : Nat))], [] ++ [some t_3.2.2.1], [] ++ [some t_3.2.2.2]) else none
noncomputable def e (K : Nat) : En M := fnE (X K) 27 Tryz.func27 ⟨(.cons (.agg (.cons (.ty (.slice yI)) (.cons (.ty (.slice q3x)) (.ty (.slice q2h))))) (.cons (.ty yI) (.cons (.ty (.slice yI)) (.ty (.slice yI))))), [], (.cons (.ptr 0 0) (.ty .err)), hs46⟩ [] (fun x => f K x.1.1.1 x.1.1.2.1 x.1.1.2.2 x.1.2.1 x.1.2.2.1 x.1.2.2.2) (fun x r => (((), r.1), (r.2.1, (), r.2.2.1, (), (), r.2.2.2.1, r.2.2.2.2.1), r.2.2.2.2.2.1, r.2.2.2.2.2.2.1, r.2.2.2.2.2.2.2.1, r.2.2.2.2.2.2.2.2.1, r.2.2.2.2.2.2.2.2.2, ())) fun x => by
  rw [q0a, f]
  try simp only [el]
  kernel_rfl
end z6v
namespace q4h
noncomputable def f (K : Nat) (a6 : List (Int × Int × Int × Nat × Nat)) : Option (Nat) := bif decide ((0 : Int) ≤ IntKind.i64.wrap ((↑a6.length : Int) - (1 : Int))) then bif (IntKind.i64.wrap ((↑a6.length : Int) - (1 : Int))).toNat.blt a6.length then some (IntKind.i64.wrap ((↑a6.length : Int) - (1 : Int))).toNat else none else none
noncomputable def e (K : Nat) : En M := fnE (m := 6) { hmx := mxd, nt := 14, cs := [] } 137 Tryz.func137 ⟨(.ptr 0 0), hs46, (.ptrI 3 0), hs46⟩ [] (fun x => f K x.2.2.2.2.1) (fun x r => (r, x.2)) fun x => by
  rw [q0a, f]
  try simp only [el]
  kernel_rfl
end q4h
namespace q5h
noncomputable def f (K : Nat) (a0 : Nat) (a1 : Int) (a2 : Int) (a3 : Option q5l) (a9 : List (Int × Int × Int × Nat × Nat)) (a10 : List (Option (List Int))) (a11 : List (Option (List Int))) : Option ((List (Int × Int × Int × Nat × Nat)) × List (Option (List Int)) × List (Option (List Int))) := a9[a0]?.bind fun t => a9[a0]?.bind fun t_1 => a3.bind fun t_2 => a9[a0]?.bind fun t_3 => bif decide ((0 : Int) ≤ t_3.1) && true then t_2.2.1[Int.toNat t_3.1]?.bind fun t_4 => a9[a0]?.bind fun t_5 => bif decide ((0 : Int) ≤ t_5.2.1) && true then t_4[Int.toNat t_5.2.1]?.bind fun t_6 => a9[a0]?.bind fun t_7 => bif decide ((0 : Int) ≤ t_7.2.2.1) && true then t_6.2.1[Int.toNat t_7.2.2.1]?.bind fun t_8 => q1g (a10[t.2.2.2.1]?.bind fun t => t.bind fun t => some t.length) fun t_9 => bif decide ((0 : Int) ≤ a1) then bif a1.toNat.blt t_9 then a10[t.2.2.2.1]?.bind fun t_10 => t_10.bind fun t_11 => t_11[a1.toNat]?.bind fun t_12 => q1g (a11[t_1.2.2.2.2]?.bind fun t => t.bind fun t => some t.length) fun t_13 => bif decide ((0 : Int) ≤ a1) then bif a1.toNat.blt t_13 then a11[t_1.2.2.2.2]?.bind fun t_14 => t_14.bind fun t_15 => t_15[a1.toNat]?.bind fun t_16 => a9[a0]?.bind fun t_17 => a9[a0]?.bind fun t_18 => some (a9.set a0 (t_18.1, t_18.2.1, IntKind.i64.wrap (t_17.2.2.1 + (1 : Int)), t_18.2.2.2.1, t_18.2.2.2.2), a10.set t.2.2.2.1 (some (t_11.set a1.toNat a2)), a11.set t_1.2.2.2.2 (some (t_15.set a1.toNat t_8))) else none else none else none else none else none else none else none
noncomputable def e (K : Nat) : En M := fnE (m := 6) { hmx := mxd, nt := 54, cs := [] } 194 Tryz.func194 ⟨(.cons (.ptr 0 0) (.cons (.ptrI 3 0) (.cons (.ty yI) (.ty yI)))), hs46, .unit, hs46⟩ [] (fun x => f K x.1.2.1 x.1.2.2.1 x.1.2.2.2 x.2.1.1 x.2.2.2.2.1 x.2.2.2.2.2.1 x.2.2.2.2.2.2.1) (fun x r => ((), x.2.1, x.2.2.1, x.2.2.2.1, r.1, r.2.1, r.2.2, ())) fun x => by
  rw [q0a, f]
  try simp only [el]
  kernel_rfl
end q5h
namespace q7v
noncomputable def f (K : Nat) (a0 : Int) (a1 : Option q5l) (a3 : Int) (a4 : Int) (a7 : List (Int × Int × Int × Nat × Nat)) (a8 : List (Option (List Int))) (a9 : List (Option (List Int))) : Option (Int × Int × List (Option (List Int)) × List (Option (List Int)) × (List (Int × Int × Int × Nat × Nat))) := bif decide ((↑(0 : Nat) : Int) ≤ IntKind.i64.wrap ((↑a7.length : Int) - (1 : Int))) && decide (IntKind.i64.wrap ((↑a7.length : Int) - (1 : Int)) ≤ (↑a7.length : Int)) then bif (↑((IntKind.i64.wrap ((↑a7.length : Int) - (1 : Int))).toNat - (0 : Nat)) : Int) == (0 : Int) then bif ((IntKind.i64.wrap ((↑a7.length : Int) - (1 : Int))).toNat - (0 : Nat)).ble a7.length then some ((1 : Int), a0, a8, a9, List.take ((IntKind.i64.wrap ((↑a7.length : Int) - (1 : Int))).toNat - (0 : Nat)) a7) else none else bif ((IntKind.i64.wrap ((↑a7.length : Int) - (1 : Int))).toNat - (0 : Nat)).ble a7.length then (q4h.f K (List.take ((IntKind.i64.wrap ((↑a7.length : Int) - (1 : Int))).toNat - (0 : Nat)) a7)).bind fun t => a1.bind fun t_1 => (List.take ((IntKind.i64.wrap ((↑a7.length : Int) - (1 : Int))).toNat - (0 : Nat)) a7)[t]?.bind fun t_2 => bif decide ((0 : Int) ≤ t_2.1) && true then t_1.2.1[Int.toNat t_2.1]?.bind fun t_3 => (List.take ((IntKind.i64.wrap ((↑a7.length : Int) - (1 : Int))).toNat - (0 : Nat)) a7)[t]?.bind fun t_4 => bif decide ((0 : Int) ≤ t_4.2.1) && true then t_3[Int.toNat t_4.2.1]?.bind fun t_5 => (List.take ((IntKind.i64.wrap ((↑a7.length : Int) - (1 : Int))).toNat - (0 : Nat)) a7)[t]?.bind fun t_6 => bif decide ((0 : Int) ≤ t_6.2.2.1) && true then t_5.1[Int.toNat t_6.2.2.1]?.bind fun t_7 => (q5h.f K t t_7.2.1 a0 a1 (List.take ((IntKind.i64.wrap ((↑a7.length : Int) - (1 : Int))).toNat - (0 : Nat)) a7) a8 a9).bind fun t => some (a3, a4, t.2.1, t.2.2, t.1) else none else none else none else none else none
noncomputable def e (K : Nat) : En M := fnE (m := 6) { hmx := mxd, nt := 65, cs := [q4h.e K, q5h.e K] } 191 Tryz.func191 ⟨sh2, hs46, .unit, hs47⟩ [] (fun x => f K x.1.2 x.2.1.1 x.2.1.2.2.2.2.2.1 x.2.1.2.2.2.2.2.2 x.2.2.2.2.1 x.2.2.2.2.2.1 x.2.2.2.2.2.2.1) (fun x r => ((), (x.2.1.1, (), x.2.1.2.2.1, (), (), r.1, r.2.1), x.2.2.1, x.2.2.2.1, (), r.2.2.1, r.2.2.2.1, r.2.2.2.2, ())) fun x => by
  rw [q0a, f]
  try simp only [el]
  kernel_rfl
end q7v
namespace q78
noncomputable def X (K : Nat) : Fx M 6 := { hmx := mxd, nt := 47, cs := [q7v.e K], cp := [(4, [.bool], [23])] }
noncomputable def f (K : Nat) (a0 : Nat) (a1 : Int) (a2 : Int) (a3 : Int) (a4 : Int) (a5 : Option q5l) (a7 : Int) (a8 : Int) (a11 : List (Int × Int × Int × Nat × Nat)) (a12 : List (Option (List Int))) (a13 : List (Option (List Int))) : Option (Int × Int × List (Option (List Int)) × List (Option (List Int)) × (List (Int × Int × Int × Nat × Nat))) := bif a1 == (3 : Int) then a11[a0]?.bind fun t => q1g (a12[t.2.2.2.1]?.bind fun t => t.bind fun t => some t.length) fun t_1 => bif decide ((0 : Int) ≤ a2) then bif a2.toNat.blt t_1 then a12[t.2.2.2.1]?.bind fun t => t.bind fun t => t[a2.toNat]?.bind fun t => q7v.f K t a5 a7 a8 a11 a12 a13 else none else none else q1g (bif a1 == (2 : Int) then a11[a0]?.bind fun t => q1g (a12[t.2.2.2.1]?.bind fun t => t.bind fun t => some t.length) fun t_1 => bif decide ((0 : Int) ≤ a2) then bif a2.toNat.blt t_1 then a12[t.2.2.2.1]?.bind fun t => t.bind fun t => t[a2.toNat]?.bind fun t => some (t == (0 : Int)) else none else none else some false) fun t => bif t then a11[a0]?.bind fun t => (a11.set a0 (t.1, a4, t.2.2.1, t.2.2.2.1, t.2.2.2.2))[a0]?.bind fun t_1 => some (a7, a8, a12, a13, (a11.set a0 (t.1, a4, t.2.2.1, t.2.2.2.1, t.2.2.2.2)).set a0 (t_1.1, t_1.2.1, (0 : Int), t_1.2.2.2.1, t_1.2.2.2.2)) else a11[a0]?.bind fun t => (a11.set a0 (t.1, a3, t.2.2.1, t.2.2.2.1, t.2.2.2.2))[a0]?.bind fun t_1 => some (a7, a8, a12, a13, (a11.set a0 (t.1, a3, t.2.2.1, t.2.2.2.1, t.2.2.2.2)).set a0 (t_1.1, t_1.2.1, (0 : Int), t_1.2.2.2.1, t_1.2.2.2.2))
noncomputable def e (K : Nat) : En M := fnE (X K) 138 Tryz.func138 ⟨(.cons (.ptr 0 0) (.cons (.ptrI 3 0) (.agg (.cons (.ty yI) (.cons (.ty yI) (.cons (.ty yI) (.ty yI))))))), hs46, .unit, hs47⟩ [] (fun x => f K x.1.2.1 x.1.2.2.1 x.1.2.2.2.1 x.1.2.2.2.2.1 x.1.2.2.2.2.2 x.2.1.1 x.2.1.2.2.2.2.2.1 x.2.1.2.2.2.2.2.2 x.2.2.2.2.1 x.2.2.2.2.2.1 x.2.2.2.2.2.2.1) (fun x r => ((), (x.2.1.1, (), x.2.1.2.2.1, (), (), r.1, r.2.1), x.2.2.1, x.2.2.2.1, (), r.2.2.1, r.2.2.2.1, r.2.2.2.2, ())) fun x => by
  rw [q0a, f]
  try simp only [el]
  kernel_rfl
end q78
namespace q7q
noncomputable def X (K : Nat) : Fx M 6 := { hmx := mxd, nt := 51, cs := [q4n.e K], ad := [(83, [(0, 4), (1, 5)])] }
noncomputable def l0.f (K : Nat) : Nat → Nat → List Int → Int → Int → List (Int × Int × Int × Nat × Nat) → List (Option (List Int)) → List Int → Option (List Int)
  | 0, _, _, _, _, _, _, _ => none
  | k + 1, a0, a1, a2, a3, a10, a11, a19 => bif decide (a3 < a2) then bif decide ((0 : Int) ≤ a3) && true then a1[a3.toNat]?.bind fun t => a10[a0]?.bind fun t_1 => q1g (a11[t_1.2.2.2.1]?.bind fun t => t.bind fun t => some t.length) fun t_2 => bif decide ((0 : Int) ≤ t) then bif (Int.toNat t).blt t_2 then a11[t_1.2.2.2.1]?.bind fun t_3 => t_3.bind fun t_4 => t_4[Int.toNat t]?.bind fun t => bif (a19.length + [t].length).ble (4000000 : Nat) then l0.f K k a0 a1 a2 (IntKind.i64.wrap (a3 + (1 : Int))) a10 a11 (a19 ++ [t]) else none else none else none else none else some a19
noncomputable def l0.b (K : Nat) : Lp M 6 := q24 (X K) 5 51 0 (q01 Tryz.f192 0) ⟨[0, 1, 5, 7, 17, 18, 19], (.cons (.ptr 0 0) (.cons (.ptrI 3 0) (.cons (.ptr 6 0) (.cons (.own 7) (.cons (.ty (.slice yI)) (.cons (.ty yI) (.ty yI))))))), hs49⟩ ⟨[0, 5, 7], (.cons (.ptr 0 0) (.cons (.ptr 6 0) (.own 7))), hs49⟩ K [] (fun k x => l0.f K k x.1.2.1 x.1.2.2.2.2.1 x.1.2.2.2.2.2.1 x.1.2.2.2.2.2.2 x.2.2.2.2.1 x.2.2.2.2.2.1 x.2.2.2.2.2.2.2.2.1) (fun x r => (((), (), ()), x.2.1, x.2.2.1, x.2.2.2.1, x.2.2.2.2.1, x.2.2.2.2.2.1, x.2.2.2.2.2.2.1, x.2.2.2.2.2.2.2.1, r, ())) fun k x => by
  rw [q0a, l0.f]
  try simp only [el]
  kernel_rfl
noncomputable def f (K : Nat) (a0 : Nat) (a4 : Int) (a6 : List Int) (a7 : Option q5l) (a13 : List (Int × Int × Int × Nat × Nat)) (a14 : List (Option (List Int))) (a15 : List (Option (List Int))) : Option (Bool × List (Option (List Int)) × List (Option (List Int)) × (List (Int × Int × Int × Nat × Nat))) := bif (↑a13.length : Int) == (64 : Int) then some (false, a14, a15, a13) else (l0.f K K a0 a6 (↑a6.length : Int) (0 : Int) a13 a14 []).bind fun t => (q4n.f K a7 a4 t).bind fun t => bif (a13.length + [(a4, t.1, t.2.1, a14.length, a15.length)].length).ble (4000000 : Nat) then some (true, a14 ++ [some t.2.2.1], a15 ++ [some t.2.2.2], a13 ++ [(a4, t.1, t.2.1, a14.length, a15.length)]) else none
noncomputable def e (K : Nat) : En M := fnE (X K) 192 Tryz.func192 ⟨sh48, hs46, (.ty .bool), hs47⟩ [l0.b K] (fun x => f K x.1.2.1 x.1.2.2.2.2.2.1 x.1.2.2.2.2.2.2.2 x.2.1.1 x.2.2.2.2.1 x.2.2.2.2.2.1 x.2.2.2.2.2.2.1) (fun x r => (r.1, x.2.1, x.2.2.1, x.2.2.2.1, (), r.2.1, r.2.2.1, r.2.2.2, ())) fun x => by
  rw [q0a, f]
  try simp only [el]
  kernel_rfl
end q7q
namespace z7v
noncomputable def f (K : Nat) (a0 : Bool) : Option (Int) := bif a0 then some (1 : Int) else some (0 : Int)
noncomputable def e (K : Nat) : En M := fnE (m := 0) { hmx := mxd, nt := 4, cs := [] } 225 Tryz.func225 ⟨(.ty .bool), [], (.ty yI), []⟩ [] (fun (x : (Bool × Unit)) => f K x.1) (fun x r => (r, ())) fun (x : (Bool × Unit)) => by
  refine Eq.trans ?_ q0a.symm
  rw [f]
  try simp only [el]
  kernel_rfl
end z7v
namespace z7h
noncomputable def f (K : Nat) (a0 : Int) (a1 : Int) (a2 : Int) : Option (Int × Bool) := bif a0 == (4 : Int) then some (IntKind.i64.wrap (a1 + a2), true) else bif a0 == (5 : Int) then some (IntKind.i64.wrap (a1 - a2), true) else bif a0 == (6 : Int) then some (IntKind.i64.wrap (a1 * a2), true) else bif a0 == (9 : Int) then some (IntKind.i64.wrap (↑(BitVec.ofInt (64 : Nat) a1 &&& BitVec.ofInt (64 : Nat) a2).toNat : Int), true) else bif a0 == (10 : Int) then some (IntKind.i64.wrap (↑(BitVec.ofInt (64 : Nat) a1 ^^^ BitVec.ofInt (64 : Nat) a2).toNat : Int), true) else bif a0 == (11 : Int) then (z7v.f K (decide (a1 < a2))).bind fun t => some (t, true) else bif a0 == (12 : Int) then (z7v.f K (a1 == a2)).bind fun t => some (t, true) else bif a0 == (7 : Int) then bif a2 == (0 : Int) then some ((0 : Int), false) else bif a0 == (7 : Int) then bif a2 == (0 : Int) then none else some (IntKind.i64.wrap (a1.tdiv a2), true) else bif a2 == (0 : Int) then none else some (a1.tmod a2, true) else bif a0 == (8 : Int) then bif a2 == (0 : Int) then some ((0 : Int), false) else bif a0 == (7 : Int) then bif a2 == (0 : Int) then none else some (IntKind.i64.wrap (a1.tdiv a2), true) else bif a2 == (0 : Int) then none else some (a1.tmod a2, true) else some ((0 : Int), false)
noncomputable def e (K : Nat) : En M := fnE (m := 0) { hmx := mxd, nt := 61, cs := [z7v.e K] } 213 Tryz.func213 ⟨(.cons (.ty yI) (.cons (.ty yI) (.ty yI))), [], sh20, []⟩ [] (fun x => f K x.1.1 x.1.2.1 x.1.2.2) (fun x r => ((r.1, r.2), ())) fun x => by
  rw [q0a, f]
  try simp only [el]
  kernel_rfl
end z7h
namespace q7c
noncomputable def f (K : Nat) (a0 : Nat) (a1 : Int) (a3 : Int) (a4 : Int) (a5 : Int) (a8 : List Int) (a11 : List Int) (a13 : List (Int × Int × Int × Nat × Nat)) (a14 : List (Option (List Int))) : Option (Int × Bool × List Int) := bif a1 == (1 : Int) then some (a5, true, a8) else bif a1 == (2 : Int) then a13[a0]?.bind fun t => q1g (a14[t.2.2.2.1]?.bind fun t => t.bind fun t => some t.length) fun t_1 => bif decide ((0 : Int) ≤ a3) then bif a3.toNat.blt t_1 then a14[t.2.2.2.1]?.bind fun t => t.bind fun t => t[a3.toNat]?.bind fun t => some (t, true, a8) else none else none else bif a1 == (3 : Int) then a13[a0]?.bind fun t => q1g (a14[t.2.2.2.1]?.bind fun t => t.bind fun t => some t.length) fun t_1 => bif decide ((0 : Int) ≤ a3) then bif a3.toNat.blt t_1 then a14[t.2.2.2.1]?.bind fun t => t.bind fun t => t[a3.toNat]?.bind fun t => some (IntKind.i64.wrap ((0 : Int) - t), true, a8) else none else none else bif a1 == (13 : Int) then bif decide ((0 : Int) ≤ a4) then bif a4.toNat.blt a11.length then a11[a4.toNat]?.bind fun t => some (t, true, a8) else none else none else bif a1 == (15 : Int) then bif (↑a8.length : Int) == (0 : Int) then some ((0 : Int), false, a8) else a8[(0 : Nat)]?.bind fun t => bif decide ((1 : Int) ≤ (↑a8.length : Int)) && decide ((↑a8.length : Int) ≤ (↑a8.length : Int)) && true then some (t, true, List.drop (1 : Nat) (List.take (↑a8.length : Int).toNat a8)) else none else a13[a0]?.bind fun t => q1g (a14[t.2.2.2.1]?.bind fun t => t.bind fun t => some t.length) fun t_1 => bif decide ((0 : Int) ≤ a3) then bif a3.toNat.blt t_1 then a14[t.2.2.2.1]?.bind fun t => t.bind fun t => t[a3.toNat]?.bind fun t => a13[a0]?.bind fun t_2 => q1g (a14[t_2.2.2.2.1]?.bind fun t => t.bind fun t => some t.length) fun t_3 => bif decide ((0 : Int) ≤ a4) then bif a4.toNat.blt t_3 then a14[t_2.2.2.2.1]?.bind fun t_4 => t_4.bind fun t_5 => t_5[a4.toNat]?.bind fun t_6 => (z7h.f K a1 t t_6).bind fun t => some (t.1, t.2, a8) else none else none else none else none
noncomputable def e (K : Nat) : En M := fnE (m := 6) { hmx := mxd, nt := 90, cs := [z7h.e K] } 193 Tryz.func193 ⟨sh48, hs46, sh20, hs46⟩ [] (fun x => f K x.1.2.1 x.1.2.2.1 x.1.2.2.2.2.1 x.1.2.2.2.2.2.1 x.1.2.2.2.2.2.2.1 x.2.1.2.2.1 x.2.2.1 x.2.2.2.2.1 x.2.2.2.2.2.1) (fun x r => ((r.1, r.2.1), (x.2.1.1, (), r.2.2, x.2.1.2.2.2), x.2.2)) fun x => by
  rw [q0a, f]
  try simp only [el]
  kernel_rfl
end q7c
namespace q7p
noncomputable def f (K : Nat) (a0 : Nat) (a1 : Int) (a2 : Int) (a3 : Int) (a4 : Int) (a5 : Int) (a6 : List Int) (a7 : Option q5l) (a8 : List Int) (a11 : List Int) (a12 : List Int) (a13 : List (Int × Int × Int × Nat × Nat)) (a14 : List (Option (List Int))) (a15 : List (Option (List Int))) : Option (Bool × List Int × List Int × List (Option (List Int)) × List (Option (List Int)) × List Int × (List (Int × Int × Int × Nat × Nat))) := bif a1 == (17 : Int) then (q7q.f K a0 a4 a6 a7 a13 a14 a15).bind fun t => some (t.1, a8, a11, t.2.1, t.2.2.1, a12, t.2.2.2) else bif a1 == (14 : Int) then a13[a0]?.bind fun t => q1g (a14[t.2.2.2.1]?.bind fun t => t.bind fun t => some t.length) fun t_1 => bif decide ((0 : Int) ≤ a3) then bif a3.toNat.blt t_1 then a14[t.2.2.2.1]?.bind fun t => t.bind fun t => t[a3.toNat]?.bind fun t => bif decide ((0 : Int) ≤ a4) then bif a4.toNat.blt a11.length then a11[a4.toNat]?.bind fun t_2 => a13[a0]?.bind fun t_3 => a13[a0]?.bind fun t_4 => some (true, a8, a11.set a4.toNat t, a14, a15, a12, a13.set a0 (t_4.1, t_4.2.1, IntKind.i64.wrap (t_3.2.2.1 + (1 : Int)), t_4.2.2.2.1, t_4.2.2.2.2)) else none else none else none else none else bif a1 == (16 : Int) then a13[a0]?.bind fun t => q1g (a14[t.2.2.2.1]?.bind fun t => t.bind fun t => some t.length) fun t_1 => bif decide ((0 : Int) ≤ a3) then bif a3.toNat.blt t_1 then a14[t.2.2.2.1]?.bind fun t => t.bind fun t => t[a3.toNat]?.bind fun t => bif (a12.length + [t].length).ble (4000000 : Nat) then a13[a0]?.bind fun t_2 => a13[a0]?.bind fun t_3 => some (true, a8, a11, a14, a15, a12 ++ [t], a13.set a0 (t_3.1, t_3.2.1, IntKind.i64.wrap (t_2.2.2.1 + (1 : Int)), t_3.2.2.2.1, t_3.2.2.2.2)) else none else none else none else (q7c.f K a0 a1 a3 a4 a5 a8 a11 a13 a14).bind fun t => bif t.2.1 then (q5h.f K a0 a2 t.1 a7 a13 a14 a15).bind fun t_1 => some (t.2.1, t.2.2, a11, t_1.2.1, t_1.2.2, a12, t_1.1) else some (t.2.1, t.2.2, a11, a14, a15, a12, a13)
noncomputable def e (K : Nat) : En M := fnE (m := 6) { hmx := mxd, nt := 75, cs := [q7q.e K, q7c.e K, q5h.e K] } 139 Tryz.func139 ⟨sh48, hs46, (.ty .bool), hs4a⟩ [] (fun x => f K x.1.2.1 x.1.2.2.1 x.1.2.2.2.1 x.1.2.2.2.2.1 x.1.2.2.2.2.2.1 x.1.2.2.2.2.2.2.1 x.1.2.2.2.2.2.2.2 x.2.1.1 x.2.1.2.2.1 x.2.2.1 x.2.2.2.1 x.2.2.2.2.1 x.2.2.2.2.2.1 x.2.2.2.2.2.2.1) (fun x r => (r.1, (x.2.1.1, (), r.2.1, x.2.1.2.2.2), r.2.2.1, (), (), r.2.2.2.1, r.2.2.2.2.1, r.2.2.2.2.2.1, r.2.2.2.2.2.2, ())) fun x => by
  rw [q0a, f]
  try simp only [el]
  kernel_rfl
end q7p
namespace q7l
noncomputable def X (K : Nat) : Fx M 6 := { hmx := mxd, nt := 63, cs := [q4h.e K, q78.e K, q7p.e K], cp := [(1, [.bool], [13])] }
noncomputable def f (K : Nat) (a0 : Option q5l) (a1 : List Int) (a2 : Int) (a3 : Int) (a4 : List Int) (a5 : List Int) (a6 : List (Int × Int × Int × Nat × Nat)) (a7 : List (Option (List Int))) (a8 : List (Option (List Int))) : Option (Bool × List Int × Int × Int × List Int × List (Option (List Int)) × List (Option (List Int)) × List Int × (List (Int × Int × Int × Nat × Nat))) := q1g (some (a2 != (0 : Int))) fun t => bif t then some (false, a1, a2, a3, a4, a7, a8, a5, a6) else (q4h.f K a6).bind fun t => a0.bind fun t_1 => a6[t]?.bind fun t_2 => bif decide ((0 : Int) ≤ t_2.1) && true then t_1.2.1[Int.toNat t_2.1]?.bind fun t_3 => a6[t]?.bind fun t_4 => bif decide ((0 : Int) ≤ t_4.2.1) && true then t_3[Int.toNat t_4.2.1]?.bind fun t_5 => a6[t]?.bind fun t_6 => bif t_6.2.2.1 == (↑(List.length t_5.1) : Int) then (q78.f K t t_5.2.2.1 t_5.2.2.2.1 t_5.2.2.2.2.1 t_5.2.2.2.2.2 a0 a2 a3 a6 a7 a8).bind fun t => some (true, a1, t.1, t.2.1, a4, t.2.2.1, t.2.2.2.1, a5, t.2.2.2.2) else a6[t]?.bind fun t_7 => bif decide ((0 : Int) ≤ t_7.2.2.1) && true then t_5.1[Int.toNat t_7.2.2.1]?.bind fun t_8 => (q7p.f K t t_8.1 t_8.2.1 t_8.2.2.1 t_8.2.2.2.1 t_8.2.2.2.2.1 t_8.2.2.2.2.2 a0 a1 a4 a5 a6 a7 a8).bind fun t => bif !t.1 then some (false, t.2.1, (2 : Int), a3, t.2.2.1, t.2.2.2.1, t.2.2.2.2.1, t.2.2.2.2.2.1, t.2.2.2.2.2.2) else some (true, t.2.1, a2, a3, t.2.2.1, t.2.2.2.1, t.2.2.2.2.1, t.2.2.2.2.2.1, t.2.2.2.2.2.2) else none else none else none
noncomputable def e (K : Nat) : En M := fnE (X K) 84 Tryz.func84 ⟨(.ptr 0 0), hs46, (.ty .bool), hs4a⟩ [] (fun x => f K x.2.1.1 x.2.1.2.2.1 x.2.1.2.2.2.2.2.1 x.2.1.2.2.2.2.2.2 x.2.2.1 x.2.2.2.1 x.2.2.2.2.1 x.2.2.2.2.2.1 x.2.2.2.2.2.2.1) (fun x r => (r.1, (x.2.1.1, (), r.2.1, (), (), r.2.2.1, r.2.2.2.1), r.2.2.2.2.1, (), (), r.2.2.2.2.2.1, r.2.2.2.2.2.2.1, r.2.2.2.2.2.2.2.1, r.2.2.2.2.2.2.2.2, ())) fun x => by
  rw [q0a, f]
  try simp only [el]
  kernel_rfl
end q7l
namespace q8c
noncomputable def X (K : Nat) : Fx M 6 := { hmx := mxd, nt := 16, cs := [q7l.e K] }
noncomputable def l0.f (K : Nat) : Nat → Int → Int → Option q5l → List Int → Int → Int → List Int → List (Option (List Int)) → List (Option (List Int)) → List Int → List (Int × Int × Int × Nat × Nat) → Option (Int × List Int × Int × Int × List Int × List (Option (List Int)) × List (Option (List Int)) × List Int × (List (Int × Int × Int × Nat × Nat)))
  | 0, _, _, _, _, _, _, _, _, _, _, _ => none
  | k + 1, a0, a1, a2, a3, a4, a5, a6, a7, a8, a9, a10 => bif decide (a1 < a0) then (q7l.f K a2 a3 a4 a5 a6 a9 a10 a7 a8).bind fun t => bif t.1 then l0.f K k a0 (IntKind.i64.wrap (a1 + (1 : Int))) a2 t.2.1 t.2.2.1 t.2.2.2.1 t.2.2.2.2.1 t.2.2.2.2.2.1 t.2.2.2.2.2.2.1 t.2.2.2.2.2.2.2.1 t.2.2.2.2.2.2.2.2 else some (a1, t.2.1, t.2.2.1, t.2.2.2.1, t.2.2.2.2.1, t.2.2.2.2.2.1, t.2.2.2.2.2.2.1, t.2.2.2.2.2.2.2.1, t.2.2.2.2.2.2.2.2) else some (a1, a3, a4, a5, a6, a7, a8, a9, a10)
noncomputable def l0.b (K : Nat) : Lp M 6 := q24 (X K) 2 16 0 (q01 Tryz.f28 0) ⟨[0, 1, 5], sh1e, hs4a⟩ ⟨[5], (.ty yI), hs4a⟩ K [] (fun k x => l0.f K k x.1.2.1 x.1.2.2 x.2.1.1 x.2.1.2.2.1 x.2.1.2.2.2.2.2.1 x.2.1.2.2.2.2.2.2 x.2.2.1 x.2.2.2.2.2.1 x.2.2.2.2.2.2.1 x.2.2.2.2.2.2.2.1 x.2.2.2.2.2.2.2.2.1) (fun x r => (r.1, (x.2.1.1, (), r.2.1, (), (), r.2.2.1, r.2.2.2.1), r.2.2.2.2.1, (), (), r.2.2.2.2.2.1, r.2.2.2.2.2.2.1, r.2.2.2.2.2.2.2.1, r.2.2.2.2.2.2.2.2, ())) fun k x => by
  rw [q0a, l0.f]
  try simp only [el]
  kernel_rfl
noncomputable def f (K : Nat) (a0 : Int) (a1 : Option q5l) (a2 : List Int) (a3 : Int) (a4 : Int) (a5 : List Int) (a6 : List Int) (a7 : List (Int × Int × Int × Nat × Nat)) (a8 : List (Option (List Int))) (a9 : List (Option (List Int))) : Option (Int × List Int × Int × Int × List Int × List (Option (List Int)) × List (Option (List Int)) × List Int × (List (Int × Int × Int × Nat × Nat))) := l0.f K K a0 (0 : Int) a1 a2 a3 a4 a5 a8 a9 a6 a7
noncomputable def e (K : Nat) : En M := fnE (X K) 28 Tryz.func28 ⟨sh2, hs46, (.ty yI), hs4a⟩ [l0.b K] (fun x => f K x.1.2 x.2.1.1 x.2.1.2.2.1 x.2.1.2.2.2.2.2.1 x.2.1.2.2.2.2.2.2 x.2.2.1 x.2.2.2.1 x.2.2.2.2.1 x.2.2.2.2.2.1 x.2.2.2.2.2.2.1) (fun x r => (r.1, (x.2.1.1, (), r.2.1, (), (), r.2.2.1, r.2.2.2.1), r.2.2.2.2.1, (), (), r.2.2.2.2.2.1, r.2.2.2.2.2.2.1, r.2.2.2.2.2.2.2.1, r.2.2.2.2.2.2.2.2, ())) fun x => by
  rw [q0a, f]
  try simp only [el]
  kernel_rfl
end q8c
namespace q61
noncomputable def X (K : Nat) : Fx M 6 := { hmx := mxd, nt := 17, cs := [], cp := [(1, [.bool], [12])] }
noncomputable def f (K : Nat) (a2 : Int) (a3 : Int) : Option (Int × Bool) := q1g (some (a2 != (1 : Int))) fun t => bif t then some ((0 : Int), false) else some (a3, true)
noncomputable def e (K : Nat) : En M := fnE (X K) 29 Tryz.func29 ⟨(.ptr 0 0), hs46, sh20, hs46⟩ [] (fun x => f K x.2.1.2.2.2.2.2.1 x.2.1.2.2.2.2.2.2) (fun x r => ((r.1, r.2), x.2)) fun x => by
  rw [q0a, f]
  try simp only [el]
  kernel_rfl
end q61
namespace q4i
noncomputable def X (K : Nat) : Fx M 0 := { hmx := mxd, nt := 51, cs := [q58.e K, q7f.e K, q2o.e K, z4g.e K, z6v.e K, q8c.e K, q61.e K], cp := [(4, [.bool], [38]), (8, [.bool], [0])] }
noncomputable def f (K : Nat) : Option (Bool) := (q58.f K).bind fun t => (q7f.f K t.1 t.2.1 t.2.2).bind fun t => (q2o.f K t.1 t.2.1 t.2.2).bind fun t => (z4g.f K t.1).bind fun t_1 => (z6v.f K t_1.1 t_1.2.1 t_1.2.2.1 (0 : Int) [] []).bind fun t_2 => q1g (bif bif true then !t.2.isNil else t.2.isNil then some true else bif bif true then !t_1.2.2.2.isNil else t_1.2.2.2.isNil then some true else some (bif true then !t_2.1.isNil else t_2.1.isNil)) fun t => bif t then some false else (q8c.f K (5 : Int) t_2.2.1 t_2.2.2.1 t_2.2.2.2.1 t_2.2.2.2.2.1 t_2.2.2.2.2.2.1 t_2.2.2.2.2.2.2.1 t_2.2.2.2.2.2.2.2.1 t_2.2.2.2.2.2.2.2.2.1 t_2.2.2.2.2.2.2.2.2.2).bind fun t => (q61.f K t.2.2.1 t.2.2.2.1).bind fun t => q1g (bif t.1 == (5 : Int) then some t.2 else some false) fun t => some t
noncomputable def e (K : Nat) : En M := fnE (X K) 7 Tryz.func7 ⟨.unit, [], (.ty .bool), []⟩ [] (fun x => f K) (fun x r => (r, ())) fun x => by
  rw [q0a, f]
  try simp only [el]
  kernel_rfl
end q4i
namespace q4l
noncomputable def f (K : Nat) (a0 : Bool) (a1 : Int) : Option (Int) := bif !a0 then some (0 : Int) else some a1
noncomputable def e (K : Nat) : En M := fnE (m := 0) { hmx := mxd, nt := 8, cs := [] } 198 Tryz.func198 ⟨sh21, [], sh21, []⟩ [] (fun (x : ((Bool × Int) × Unit)) => f K x.1.1 x.1.2) (fun x r => ((x.1.1, r), ())) fun (x : ((Bool × Int) × Unit)) => by
  refine Eq.trans ?_ q0a.symm
  rw [f]
  try simp only [el]
  kernel_rfl
end q4l
namespace q6v
noncomputable def f (K : Nat) (a0 : Bool) (a1 : Int) : Option (Bool) := (q4l.f K a0 a1).bind fun t => some (bif false then !(a0 == a0 && a1 == t) else a0 == a0 && a1 == t)
noncomputable def e (K : Nat) : En M := fnE (m := 0) { hmx := mxd, nt := 7, cs := [q4l.e K] } 145 Tryz.func145 ⟨sh21, [], (.ty .bool), []⟩ [] (fun (x : ((Bool × Int) × Unit)) => f K x.1.1 x.1.2) (fun x r => (r, ())) fun (x : ((Bool × Int) × Unit)) => by
  refine Eq.trans ?_ q0a.symm
  rw [f]
  try simp only [el]
  kernel_rfl
end q6v
namespace q37
noncomputable def X (K : Nat) : Fx M 0 := { hmx := mxd, nt := 21, cs := [q4p.e K, q6v.e K, q0m.e K, q3m.e K], cp := [(1, [.bool], [2])] }
noncomputable def f (K : Nat) (a0 : Int) (a1 : Bool) (a2 : Int) (a3 : Int) (a4 : Int) (a5 : Int) : Option (Bool) := q1g ((q4p.f K a0).bind fun t => bif t then (q6v.f K a1 a2).bind fun t => bif t then (q0m.f K a3 a4).bind fun t => bif t then (q3m.f K a5).bind fun t => some t else some false else some false else some false) fun t => some t
noncomputable def e (K : Nat) : En M := fnE (X K) 86 Tryz.func86 ⟨sh22, [], (.ty .bool), []⟩ [] (fun (x : ((Int × (Bool × (Int × (Int × (Int × Int))))) × Unit)) => f K x.1.1 x.1.2.1 x.1.2.2.1 x.1.2.2.2.1 x.1.2.2.2.2.1 x.1.2.2.2.2.2) (fun x r => (r, ())) fun (x : ((Int × (Bool × (Int × (Int × (Int × Int))))) × Unit)) => by
  refine Eq.trans ?_ q0a.symm
  rw [f]
  try simp only [el]
  kernel_rfl
end q37
namespace q46
noncomputable def f (K : Nat) (a0 : Int) (a1 : Bool) (a2 : Int) (a3 : Int) (a4 : Int) (a5 : Int) : Option (Bool) := (q37.f K a0 a1 a2 a3 a4 a5).bind fun t => some !t
noncomputable def e (K : Nat) : En M := fnE (m := 0) { hmx := mxd, nt := 6, cs := [q37.e K] } 149 Tryz.func149 ⟨sh22, [], (.ty .bool), []⟩ [] (fun (x : ((Int × (Bool × (Int × (Int × (Int × Int))))) × Unit)) => f K x.1.1 x.1.2.1 x.1.2.2.1 x.1.2.2.2.1 x.1.2.2.2.2.1 x.1.2.2.2.2.2) (fun x r => (r, ())) fun (x : ((Int × (Bool × (Int × (Int × (Int × Int))))) × Unit)) => by
  refine Eq.trans ?_ q0a.symm
  rw [f]
  try simp only [el]
  kernel_rfl
end q46
namespace q6e
noncomputable def f (K : Nat) (a0 : Int) (a1 : Bool) (a2 : Int) (a3 : Int) (a4 : Int) (a5 : Int) : Option (Bool) := (q37.f K a0 a1 a2 a3 a4 a5).bind fun t => some !t
noncomputable def e (K : Nat) : En M := fnE (m := 0) { hmx := mxd, nt := 6, cs := [q37.e K] } 214 Tryz.func214 ⟨sh22, [], (.ty .bool), []⟩ [] (fun (x : ((Int × (Bool × (Int × (Int × (Int × Int))))) × Unit)) => f K x.1.1 x.1.2.1 x.1.2.2.1 x.1.2.2.2.1 x.1.2.2.2.2.1 x.1.2.2.2.2.2) (fun x r => (r, ())) fun (x : ((Int × (Bool × (Int × (Int × (Int × Int))))) × Unit)) => by
  refine Eq.trans ?_ q0a.symm
  rw [f]
  try simp only [el]
  kernel_rfl
end q6e
namespace q04
noncomputable def X (K : Nat) : Fx M 0 := { hmx := mxd, nt := 19, cs := [q6e.e K] }
noncomputable def l0.f (K : Nat) : Nat → List q0l → Int → Int → Option ((Unit) ⊕ (Int))
  | 0, _, _, _ => none
  | k + 1, a0, a1, a2 => bif decide (a2 < a1) then bif decide ((0 : Int) ≤ a2) && true then a0[a2.toNat]?.bind fun t => (q6e.f K t.1 t.2.1.1 t.2.1.2 t.2.2.1.1 t.2.2.1.2 t.2.2.2).bind fun t => bif t then some (Sum.inr a2) else l0.f K k a0 a1 (IntKind.i64.wrap (a2 + (1 : Int))) else none else some (Sum.inl ())
noncomputable def l0.b (K : Nat) : Lp M 0 := q3s (X K) 2 19 0 (q01 Tryz.f200 0) ⟨[0, 1, 7, 8], (.cons (.ty (.slice q15)) (.cons (.fn 214 .unit .unit) (.cons (.ty yI) (.ty yI)))), []⟩ ss18 ⟨[4], (.ty yI), []⟩ K [] (fun k x => l0.f K k x.1.1 x.1.2.2.1 x.1.2.2.2) (fun x r => ((), ())) (fun x r => (r, ())) fun k x => by
  rw [q0a, l0.f]
  try simp only [el]
  kernel_rfl
noncomputable def f (K : Nat) (a0 : List q0l) : Option (Int) := (l0.f K K a0 (↑a0.length : Int) (0 : Int)).bind fun t => Sum.elim (fun t => some (-1 : Int)) (fun t => some t) t
noncomputable def e (K : Nat) : En M := fnE (X K) 200 Tryz.func200 ⟨(.cons (.ty (.slice q15)) (.fn 214 .unit .unit)), [], (.ty yI), []⟩ [l0.b K] (fun x => f K x.1.1) (fun x r => (r, ())) fun x => by
  rw [q0a, f]
  try simp only [el]
  kernel_rfl
end q04
namespace q03
noncomputable def X (K : Nat) : Fx M 0 := { hmx := mxd, nt := 19, cs := [q46.e K] }
noncomputable def l0.f (K : Nat) : Nat → List q0l → Int → Int → Option ((Unit) ⊕ (Int))
  | 0, _, _, _ => none
  | k + 1, a0, a1, a2 => bif decide (a2 < a1) then bif decide ((0 : Int) ≤ a2) && true then a0[a2.toNat]?.bind fun t => (q46.f K t.1 t.2.1.1 t.2.1.2 t.2.2.1.1 t.2.2.1.2 t.2.2.2).bind fun t => bif t then some (Sum.inr a2) else l0.f K k a0 a1 (IntKind.i64.wrap (a2 + (1 : Int))) else none else some (Sum.inl ())
noncomputable def l0.b (K : Nat) : Lp M 0 := q3s (X K) 2 19 0 (q01 Tryz.f200 0) ⟨[0, 1, 7, 8], (.cons (.ty (.slice q15)) (.cons (.fn 149 .unit .unit) (.cons (.ty yI) (.ty yI)))), []⟩ ss18 ⟨[4], (.ty yI), []⟩ K [] (fun k x => l0.f K k x.1.1 x.1.2.2.1 x.1.2.2.2) (fun x r => ((), ())) (fun x r => (r, ())) fun k x => by
  rw [q0a, l0.f]
  try simp only [el]
  kernel_rfl
noncomputable def f (K : Nat) (a0 : List q0l) : Option (Int) := (l0.f K K a0 (↑a0.length : Int) (0 : Int)).bind fun t => Sum.elim (fun t => some (-1 : Int)) (fun t => some t) t
noncomputable def e (K : Nat) : En M := fnE (X K) 200 Tryz.func200 ⟨(.cons (.ty (.slice q15)) (.fn 149 .unit .unit)), [], (.ty yI), []⟩ [l0.b K] (fun x => f K x.1.1) (fun x r => (r, ())) fun x => by
  rw [q0a, f]
  try simp only [el]
  kernel_rfl
end q03
namespace q1b
noncomputable def f (K : Nat) (a0 : List q0l) : Option (Bool) := (q04.f K a0).bind fun t => some (decide (t ≥ (0 : Int)))
noncomputable def e (K : Nat) : En M := fnE (m := 0) { hmx := mxd, nt := 9, cs := [q04.e K] } 150 Tryz.func150 ⟨(.cons (.ty (.slice q15)) (.fn 214 .unit .unit)), [], (.ty .bool), []⟩ [] (fun x => f K x.1.1) (fun x r => (r, ())) fun x => by
  rw [q0a, f]
  try simp only [el]
  kernel_rfl
end q1b
namespace q1c
noncomputable def f (K : Nat) (a0 : List q0l) : Option (Bool) := (q03.f K a0).bind fun t => some (decide (t ≥ (0 : Int)))
noncomputable def e (K : Nat) : En M := fnE (m := 0) { hmx := mxd, nt := 9, cs := [q03.e K] } 150 Tryz.func150 ⟨(.cons (.ty (.slice q15)) (.fn 149 .unit .unit)), [], (.ty .bool), []⟩ [] (fun x => f K x.1.1) (fun x r => (r, ())) fun x => by
  rw [q0a, f]
  try simp only [el]
  kernel_rfl
end q1c
namespace q7r
noncomputable def X (K : Nat) : Fx M 0 := { hmx := mxd, nt := 37, cs := [q1c.e K, q46.e K], cp := [(7, [.bool], [15]), (8, [.bool], [15])] }
noncomputable def f (K : Nat) (a0 : Bool) (a1 : List q0l) (a2 : Bool) (a3 : Int) (a4 : Bool) (a5 : Int) (a6 : Int) (a7 : Int) (a8 : Int) (a9 : Int) : Option (Int) := bif !a0 then bif (↑a1.length : Int) != (0 : Int) then some (12 : Int) else (q1c.f K a1).bind fun t => bif t then some (13 : Int) else q1g (bif a2 then (q46.f K a3 a4 a5 a6 a7 a8).bind fun t => some t else some false) fun t => bif t then some (13 : Int) else q1g (bif !a2 then some (bif true then !(a3 == (0 : Int) && (a4 == false && a5 == (0 : Int) && (a6 == (0 : Int) && a7 == (0 : Int) && a8 == (0 : Int)))) else a3 == (0 : Int) && (a4 == false && a5 == (0 : Int) && (a6 == (0 : Int) && a7 == (0 : Int) && a8 == (0 : Int)))) else some false) fun t => bif t then some (13 : Int) else some (0 : Int) else bif (↑a1.length : Int) != a9 then some (12 : Int) else (q1c.f K a1).bind fun t => bif t then some (13 : Int) else q1g (bif a2 then (q46.f K a3 a4 a5 a6 a7 a8).bind fun t => some t else some false) fun t => bif t then some (13 : Int) else q1g (bif !a2 then some (bif true then !(a3 == (0 : Int) && (a4 == false && a5 == (0 : Int) && (a6 == (0 : Int) && a7 == (0 : Int) && a8 == (0 : Int)))) else a3 == (0 : Int) && (a4 == false && a5 == (0 : Int) && (a6 == (0 : Int) && a7 == (0 : Int) && a8 == (0 : Int)))) else some false) fun t => bif t then some (13 : Int) else some (0 : Int)
noncomputable def e (K : Nat) : En M := fnE (X K) 88 Tryz.func88 ⟨(.cons (.agg (.cons (.ty .bool) (.cons (.ty (.slice q15)) (.cons (.ty .bool) (.cons (.ty yI) (.cons (.ty .bool) (.cons (.ty yI) (.cons (.ty yI) (.cons (.ty yI) (.ty yI)))))))))) (.ty yI)), [], (.ty yI), []⟩ [] (fun (x : (((Bool × ((List q0l) × (Bool × (Int × (Bool × (Int × (Int × (Int × Int)))))))) × Int) × Unit)) => f K x.1.1.1 x.1.1.2.1 x.1.1.2.2.1 x.1.1.2.2.2.1 x.1.1.2.2.2.2.1 x.1.1.2.2.2.2.2.1 x.1.1.2.2.2.2.2.2.1 x.1.1.2.2.2.2.2.2.2.1 x.1.1.2.2.2.2.2.2.2.2 x.1.2) (fun x r => (r, ())) fun (x : (((Bool × ((List q0l) × (Bool × (Int × (Bool × (Int × (Int × (Int × Int)))))))) × Int) × Unit)) => by
  refine Eq.trans ?_ q0a.symm
  rw [f]
  try simp only [el]
  kernel_rfl
end q7r
namespace q51
noncomputable def f (K : Nat) (a0 : Int) : Option (Bool) := some (a0 != a0)
noncomputable def e (K : Nat) : En M := fnE (m := 0) { hmx := mxd, nt := 6, cs := [] } 205 Tryz.func205 ⟨(.ty yI), [], (.ty .bool), []⟩ [] (fun x => f K x.1) (fun x r => (r, ())) fun x => by
  rw [q0a, f]
  try simp only [el]
  kernel_rfl
end q51
namespace q66
noncomputable def X (K : Nat) : Fx M 0 := { hmx := mxd, nt := 17, cs := [q51.e K], cp := [(1, [.bool], [4])] }
noncomputable def f (K : Nat) (a0 : Int) (a1 : Int) : Option (Bool) := q1g ((q51.f K a0).bind fun t => bif t then (q51.f K a1).bind fun t => bif !t then some true else some (decide (a0 < a1)) else some (decide (a0 < a1))) fun t => some t
noncomputable def e (K : Nat) : En M := fnE (X K) 172 Tryz.func172 ⟨(.cons (.ty yI) (.ty yI)), [], (.ty .bool), []⟩ [] (fun x => f K x.1.1 x.1.2) (fun x r => (r, ())) fun x => by
  rw [q0a, f]
  try simp only [el]
  kernel_rfl
end q66
namespace q4j
noncomputable def f (K : Nat) (a0 : Int) : Option (Bool) := some (a0 != a0)
noncomputable def e (K : Nat) : En M := fnE (m := 0) { hmx := mxd, nt := 6, cs := [] } 173 Tryz.func173 ⟨(.ty yI), [], (.ty .bool), []⟩ [] (fun x => f K x.1) (fun x r => (r, ())) fun x => by
  rw [q0a, f]
  try simp only [el]
  kernel_rfl
end q4j
namespace q1x
noncomputable def X (K : Nat) : Fx M 0 := { hmx := mxd, nt := 54, cs := [q66.e K, q4j.e K], cp := [(8, [yI, .bool], [4, 5])] }
noncomputable def l0.f (K : Nat) : Nat → List Int → Int → Int → Int → Option (Int)
  | 0, _, _, _, _ => none
  | k + 1, a0, a1, a3, a4 => bif decide (a3 < a4) then bif decide ((0 : Int) ≤ IntKind.i64.wrap ((IntKind.u64.wrap (IntKind.i64.wrap (a3 + a4))).fdiv ((2 : Int) ^ (1 : Nat)))) && true then a0[(IntKind.i64.wrap ((IntKind.u64.wrap (IntKind.i64.wrap (a3 + a4))).fdiv ((2 : Int) ^ (1 : Nat)))).toNat]?.bind fun t => (q66.f K t a1).bind fun t => bif t then l0.f K k a0 a1 (IntKind.i64.wrap (IntKind.i64.wrap ((IntKind.u64.wrap (IntKind.i64.wrap (a3 + a4))).fdiv ((2 : Int) ^ (1 : Nat))) + (1 : Int))) a4 else l0.f K k a0 a1 a3 (IntKind.i64.wrap ((IntKind.u64.wrap (IntKind.i64.wrap (a3 + a4))).fdiv ((2 : Int) ^ (1 : Nat)))) else none else some a3
noncomputable def l0.b (K : Nat) : Lp M 0 := q24 (X K) 3 54 0 (q01 Tryz.f119 0) ⟨[0, 1, 6, 7, 8], (.cons (.ty (.slice yI)) (.cons (.ty yI) (.cons (.ty yI) (.cons (.ty yI) (.ty yI))))), []⟩ ⟨[0, 1, 6, 7], (.cons (.ty (.slice yI)) (.cons (.ty yI) (.cons (.ty yI) (.ty yI)))), []⟩ K [] (fun k x => l0.f K k x.1.1 x.1.2.1 x.1.2.2.2.1 x.1.2.2.2.2) (fun x r => ((x.1.1, x.1.2.1, x.1.2.2.1, r), ())) fun k x => by
  rw [q0a, l0.f]
  try simp only [el]
  kernel_rfl
noncomputable def f (K : Nat) (a0 : List Int) (a1 : Int) : Option (Int × Bool) := (l0.f K K a0 a1 (0 : Int) (↑a0.length : Int)).bind fun t => q1g (bif decide (t < (↑a0.length : Int)) then bif decide ((0 : Int) ≤ t) && true then a0[t.toNat]?.bind fun t_1 => bif t_1 == a1 then some (t, true) else bif decide ((0 : Int) ≤ t) && true then a0[t.toNat]?.bind fun t_2 => (q4j.f K t_2).bind fun t_3 => bif t_3 then (q4j.f K a1).bind fun t_4 => some (t, t_4) else some (t, false) else none else none else some (t, false)) fun t => some (t.1, t.2)
noncomputable def e (K : Nat) : En M := fnE (X K) 119 Tryz.func119 ⟨(.cons (.ty (.slice yI)) (.ty yI)), [], sh20, []⟩ [l0.b K] (fun x => f K x.1.1 x.1.2) (fun x r => ((r.1, r.2), ())) fun x => by
  rw [q0a, f]
  try simp only [el]
  kernel_rfl
end q1x
namespace q9o
noncomputable def f (K : Nat) (a0 : List Int) (a1 : Int) : Option (Bool) := (q1x.f K a0 a1).bind fun t => some t.2
noncomputable def e (K : Nat) : En M := fnE (m := 0) { hmx := mxd, nt := 14, cs := [q1x.e K] } 64 Tryz.func64 ⟨(.cons (.ty (.slice yI)) (.ty yI)), [], (.ty .bool), []⟩ [] (fun x => f K x.1.1 x.1.2) (fun x r => (r, ())) fun x => by
  rw [q0a, f]
  try simp only [el]
  kernel_rfl
end q9o
namespace q35
noncomputable def X (K : Nat) : Fx M 0 := { hmx := mxd, nt := 40, cs := [q23.e K, q1b.e K], cp := [(3, [.bool], [23])] }
noncomputable def l0.f (K : Nat) : Nat → Int → List (List Int) → Int → Int → Option ((Unit) ⊕ (Bool))
  | 0, _, _, _, _ => none
  | k + 1, a0, a1, a2, a3 => bif decide (a3 < a2) then bif decide ((0 : Int) ≤ a3) && true then a1[a3.toNat]?.bind fun t => (q23.f K a0 t).bind fun t => bif !t then some (Sum.inr false) else l0.f K k a0 a1 a2 (IntKind.i64.wrap (a3 + (1 : Int))) else none else some (Sum.inl ())
noncomputable def l0.b (K : Nat) : Lp M 0 := q3s (X K) 6 40 0 (q01 Tryz.f199 0) ⟨[2, 3, 25, 26, 27], (.cons (.ty yI) (.cons (.ptr 0 0) (.cons (.ty (.slice (.slice yI))) (.cons (.ty yI) (.ty yI))))), [.cells 109 0 sh4b]⟩ ⟨[3], (.ptr 0 0), [.cells 109 0 sh4b]⟩ ss4c K [] (fun k (x : ((Int × (Unit × ((List (List Int)) × (Int × Int)))) × ((Bool × ((List q0l) × (List (List Int)))) × Unit))) => l0.f K k x.1.1 x.1.2.2.1 x.1.2.2.2.1 x.1.2.2.2.2) (fun x r => ((), x.2)) (fun x r => (r, ())) fun k (x : ((Int × (Unit × ((List (List Int)) × (Int × Int)))) × ((Bool × ((List q0l) × (List (List Int)))) × Unit))) => by
  refine Eq.trans ?_ q0a.symm
  rw [l0.f]
  try simp only [el]
  kernel_rfl
noncomputable def f (K : Nat) (a0 : Bool) (a1 : List q0l) (a2 : List (List Int)) (a3 : Int) (a4 : Int) : Option (Bool) := bif !a0 then q1g (bif (↑a1.length : Int) != (0 : Int) then some true else some ((↑a2.length : Int) != (0 : Int))) fun t => bif t then some false else (l0.f K K a4 a2 (↑a2.length : Int) (0 : Int)).bind fun t => Sum.elim (fun t => (q1b.f K a1).bind fun t => some !t) (fun t => some t) t else q1g (bif (↑a1.length : Int) != a3 then some true else some ((↑a2.length : Int) != a3)) fun t => bif t then some false else (l0.f K K a4 a2 (↑a2.length : Int) (0 : Int)).bind fun t => Sum.elim (fun t => (q1b.f K a1).bind fun t => some !t) (fun t => some t) t
noncomputable def e (K : Nat) : En M := fnE (X K) 199 Tryz.func199 ⟨(.cons (.agg (.cons (.ty .bool) (.cons (.ty (.slice q15)) (.ty (.slice (.slice yI)))))) (.cons (.ty yI) (.ty yI))), [], (.ty .bool), []⟩ [l0.b K] (fun (x : (((Bool × ((List q0l) × (List (List Int)))) × (Int × Int)) × Unit)) => f K x.1.1.1 x.1.1.2.1 x.1.1.2.2 x.1.2.1 x.1.2.2) (fun x r => (r, ())) fun (x : (((Bool × ((List q0l) × (List (List Int)))) × (Int × Int)) × Unit)) => by
  refine Eq.trans ?_ q0a.symm
  rw [f]
  try simp only [el]
  kernel_rfl
end q35
namespace q3r
noncomputable def X (K : Nat) : Fx M 0 := { hmx := mxd, nt := 63, cs := [q35.e K, q23.e K], cp := [(4, [.bool], [15]), (9, [.bool], [45])] }
noncomputable def f (K : Nat) (a3 : Int) (a4 : Bool) (a7 : Int) (a9 : Bool) (a10 : List q0l) (a11 : List (List Int)) (a12 : List Int) (a13 : Bool) : Option (Int) := bif a9 then q1g (bif (↑a10.length : Int) != a7 then some true else some ((↑a11.length : Int) != a7)) fun t => bif t then some (12 : Int) else (q35.f K a9 a10 a11 a7 a3).bind fun t => bif !t then some (13 : Int) else (q23.f K a7 a12).bind fun t => bif !t then some (13 : Int) else q1g (bif a4 then bif !a13 then bif a9 then some true else some (decide ((↑a12.length : Int) > (0 : Int))) else some false else some false) fun t => bif t then some (12 : Int) else some (0 : Int) else q1g (bif (↑a10.length : Int) != (0 : Int) then some true else some ((↑a11.length : Int) != (0 : Int))) fun t => bif t then some (12 : Int) else (q35.f K a9 a10 a11 a7 a3).bind fun t => bif !t then some (13 : Int) else (q23.f K a7 a12).bind fun t => bif !t then some (13 : Int) else q1g (bif a4 then bif !a13 then bif a9 then some true else some (decide ((↑a12.length : Int) > (0 : Int))) else some false else some false) fun t => bif t then some (12 : Int) else some (0 : Int)
noncomputable def e (K : Nat) : En M := fnE (X K) 148 Tryz.func148 ⟨(.cons (.agg (.cons (.ty (.slice yI)) (.cons (.ty (.slice q3x)) (.cons (.ty (.slice q2h)) (.cons (.ty yI) (.ty .bool)))))) (.cons (.agg (.cons (.ty .str) (.cons (.ty yI) (.cons (.ty yI) (.ty (.slice q2r)))))) (.cons (.agg (.cons (.ty .bool) (.cons (.ty (.slice q15)) (.cons (.ty (.slice (.slice yI))) (.ty (.slice yI)))))) (.ty .bool)))), [], (.ty yI), []⟩ [] (fun (x : ((((List Int) × ((List q0x) × ((List q0g) × (Int × Bool)))) × ((ByteArray × (Int × (Int × (List q1m)))) × ((Bool × ((List q0l) × ((List (List Int)) × (List Int)))) × Bool))) × Unit)) => f K x.1.1.2.2.2.1 x.1.1.2.2.2.2 x.1.2.1.2.2.1 x.1.2.2.1.1 x.1.2.2.1.2.1 x.1.2.2.1.2.2.1 x.1.2.2.1.2.2.2 x.1.2.2.2) (fun x r => (r, ())) fun (x : ((((List Int) × ((List q0x) × ((List q0g) × (Int × Bool)))) × ((ByteArray × (Int × (Int × (List q1m)))) × ((Bool × ((List q0l) × ((List (List Int)) × (List Int)))) × Bool))) × Unit)) => by
  refine Eq.trans ?_ q0a.symm
  rw [f]
  try simp only [el]
  kernel_rfl
end q3r
namespace q11
noncomputable def X (K : Nat) : Fx M 0 := { hmx := mxd, nt := 54, cs := [q7r.e K, q4e.e K, q9o.e K, q3r.e K, q1d.e K] }
noncomputable def l0.f (K : Nat) : Nat → List Int → List q1l → Int → Int → Int → Bool → Int → Option ((Unit) ⊕ (Err))
  | 0, _, _, _, _, _, _, _ => none
  | k + 1, a0, a1, a2, a3, a7, a8, a11 => bif decide (a3 < a2) then bif decide ((0 : Int) ≤ a3) && true then a1[a3.toNat]?.bind fun t => (q9o.f K a0 a3).bind fun t_1 => (q3r.f K a7 a8 a11 t.1.1 t.1.2.1 t.1.2.2 t.2 t_1).bind fun t => bif t != (0 : Int) then (q1d.f K (Err.no t) [a3]).bind fun t => some (Sum.inr t) else l0.f K k a0 a1 a2 (IntKind.i64.wrap (a3 + (1 : Int))) a7 a8 a11 else none else some (Sum.inl ())
noncomputable def l0.b (K : Nat) : Lp M 0 := q3s (X K) 8 54 0 (q01 Tryz.f87 0) ⟨[3, 4, 8, 32, 33, 34], (.cons (.ptr 0 0) (.cons (.ptr 1 0) (.cons (.ty (.slice yI)) (.cons (.ty (.slice q3e)) (.cons (.ty yI) (.ty yI)))))), [.cells 209 0 sh4d, hh1a]⟩ ss18 ss1d K [] (fun k (x : ((Unit × (Unit × ((List Int) × ((List q1l) × (Int × Int))))) × (((List Int) × ((List q0x) × ((List q0g) × (Int × Bool)))) × ((ByteArray × (Int × (Int × (List q1m)))) × Unit)))) => l0.f K k x.1.2.2.1 x.1.2.2.2.1 x.1.2.2.2.2.1 x.1.2.2.2.2.2 x.2.1.2.2.2.1 x.2.1.2.2.2.2 x.2.2.1.2.2.1) (fun x r => ((), ())) (fun x r => (r, ())) fun k (x : ((Unit × (Unit × ((List Int) × ((List q1l) × (Int × Int))))) × (((List Int) × ((List q0x) × ((List q0g) × (Int × Bool)))) × ((ByteArray × (Int × (Int × (List q1m)))) × Unit)))) => by
  refine Eq.trans ?_ q0a.symm
  rw [l0.f]
  try simp only [el]
  kernel_rfl
noncomputable def f (K : Nat) (a3 : Int) (a4 : Bool) (a6 : Int) (a7 : Int) (a8 : List q1m) (a9 : Bool) (a10 : List q0l) (a11 : Bool) (a12 : Int) (a13 : Bool) (a14 : Int) (a15 : Int) (a16 : Int) (a17 : Int) (a18 : List q1l) : Option (Err) := (q7r.f K a9 a10 a11 a12 a13 a14 a15 a16 a17 a6).bind fun t => bif t != (0 : Int) then some (Err.no t) else bif (↑a18.length : Int) != (↑a8.length : Int) then some (Err.no (12 : Int)) else (q4e.f K a8).bind fun t => (l0.f K K t a18 (↑a18.length : Int) (0 : Int) a3 a4 a7).bind fun t => Sum.elim (fun t => some Err.nil) (fun t => some t) t
noncomputable def e (K : Nat) : En M := fnE (X K) 87 Tryz.func87 ⟨(.cons (.agg (.cons (.ty (.slice yI)) (.cons (.ty (.slice q3x)) (.cons (.ty (.slice q2h)) (.cons (.ty yI) (.ty .bool)))))) (.cons (.agg (.cons (.ty .str) (.cons (.ty yI) (.cons (.ty yI) (.ty (.slice q2r)))))) (.agg (.cons (.ty .bool) (.cons (.ty (.slice q15)) (.cons (.ty .bool) (.cons (.ty yI) (.cons (.ty .bool) (.cons (.ty yI) (.cons (.ty yI) (.cons (.ty yI) (.cons (.ty yI) (.ty (.slice q3e)))))))))))))), [], (.ty .err), []⟩ [l0.b K] (fun (x : ((((List Int) × ((List q0x) × ((List q0g) × (Int × Bool)))) × ((ByteArray × (Int × (Int × (List q1m)))) × (Bool × ((List q0l) × (Bool × (Int × (Bool × (Int × (Int × (Int × (Int × (List q1l)))))))))))) × Unit)) => f K x.1.1.2.2.2.1 x.1.1.2.2.2.2 x.1.2.1.2.1 x.1.2.1.2.2.1 x.1.2.1.2.2.2 x.1.2.2.1 x.1.2.2.2.1 x.1.2.2.2.2.1 x.1.2.2.2.2.2.1 x.1.2.2.2.2.2.2.1 x.1.2.2.2.2.2.2.2.1 x.1.2.2.2.2.2.2.2.2.1 x.1.2.2.2.2.2.2.2.2.2.1 x.1.2.2.2.2.2.2.2.2.2.2.1 x.1.2.2.2.2.2.2.2.2.2.2.2) (fun x r => (r, ())) fun (x : ((((List Int) × ((List q0x) × ((List q0g) × (Int × Bool)))) × ((ByteArray × (Int × (Int × (List q1m)))) × (Bool × ((List q0l) × (Bool × (Int × (Bool × (Int × (Int × (Int × (Int × (List q1l)))))))))))) × Unit)) => by
  refine Eq.trans ?_ q0a.symm
  rw [f]
  try simp only [el]
  kernel_rfl
end q11
namespace q2i
noncomputable def X (K : Nat) : Fx M 0 := { hmx := mxd, nt := 116, cs := [q2g.e K, q37.e K, q1d.e K, q4u.e K, q11.e K, q7r.e K], cp := [(4, [.bool], [46])] }
noncomputable def l2.f (K : Nat) : Nat → List LSum → Int → Int → List q0g → Option ((Unit) ⊕ (Err))
  | 0, _, _, _, _ => none
  | k + 1, a0, a1, a2, a5 => bif decide (a2 < a1) then bif decide ((0 : Int) ≤ a2) && true then a0[a2.toNat]?.bind fun t => bif decide ((0 : Int) ≤ a2) && true then a5[a2.toNat]?.bind fun t_1 => (q7r.f K t.1 t.2.1 t.2.2.1 t.2.2.2.1 t.2.2.2.2.1.1 t.2.2.2.2.1.2 t.2.2.2.2.2.1.1 t.2.2.2.2.2.1.2 t.2.2.2.2.2.2 t_1.2).bind fun t => bif t != (0 : Int) then (q1d.f K (Err.no t) [(2 : Int), a2]).bind fun t => some (Sum.inr t) else l2.f K k a0 a1 (IntKind.i64.wrap (a2 + (1 : Int))) a5 else none else none else some (Sum.inl ())
noncomputable def l2.b (K : Nat) : Lp M 0 := q3s (X K) 21 116 4 (q01 Tryz.f32 2) ⟨[3, 93, 94, 95], sh4f, [hh17]⟩ ss18 ss1d K [] (fun k x => l2.f K k x.1.2.1 x.1.2.2.1 x.1.2.2.2 x.2.1.2.2) (fun x r => ((), ())) (fun x r => (r, ())) fun k x => by
  rw [q0a, l2.f]
  try simp only [el]
  kernel_rfl
noncomputable def l1.f (K : Nat) : Nat → List q06 → Int → Int → List q0x → Int → Bool → Option ((Unit) ⊕ (Err))
  | 0, _, _, _, _, _, _ => none
  | k + 1, a0, a1, a2, a4, a12, a13 => bif decide (a2 < a1) then bif decide ((0 : Int) ≤ a2) && true then a0[a2.toNat]?.bind fun t => bif decide ((0 : Int) ≤ a2) && true then a4[a2.toNat]?.bind fun t_1 => (q11.f K a12 a13 t_1.2.1 t_1.2.2.1 t_1.2.2.2 t.1.1 t.1.2.1 t.1.2.2.1 t.1.2.2.2.1 t.1.2.2.2.2.1.1 t.1.2.2.2.2.1.2 t.1.2.2.2.2.2.1.1 t.1.2.2.2.2.2.1.2 t.1.2.2.2.2.2.2 t.2).bind fun t => bif bif true then !t.isNil else t.isNil then (q1d.f K t [(1 : Int), a2]).bind fun t => some (Sum.inr t) else l1.f K k a0 a1 (IntKind.i64.wrap (a2 + (1 : Int))) a4 a12 a13 else none else none else some (Sum.inl ())
noncomputable def l1.b (K : Nat) : Lp M 0 := q3s (X K) 14 116 2 (q01 Tryz.f32 1) ⟨[3, 4, 10, 70, 71, 72], (.cons (.ptr 0 0) (.cons (.ptr 1 0) (.cons (.ptr 2 0) (.cons (.ty (.slice q4c)) (.cons (.ty yI) (.ty yI)))))), [hh17, hh50, .cells 209 0 sh4d]⟩ ⟨[3, 4], sh1c, [hh17, hh50]⟩ ss1d K [] (fun k (x : ((Unit × (Unit × (Unit × ((List q06) × (Int × Int))))) × (((List Int) × ((List q0x) × (List q0g))) × (((List q0l) × ((List q06) × (List LSum))) × (((List Int) × ((List q0x) × ((List q0g) × (Int × Bool)))) × Unit))))) => l1.f K k x.1.2.2.2.1 x.1.2.2.2.2.1 x.1.2.2.2.2.2 x.2.1.2.1 x.2.2.2.1.2.2.2.1 x.2.2.2.1.2.2.2.2) (fun x r => (((), ()), x.2.1, x.2.2.1, ())) (fun x r => (r, ())) fun k (x : ((Unit × (Unit × (Unit × ((List q06) × (Int × Int))))) × (((List Int) × ((List q0x) × (List q0g))) × (((List q0l) × ((List q06) × (List LSum))) × (((List Int) × ((List q0x) × ((List q0g) × (Int × Bool)))) × Unit))))) => by
  refine Eq.trans ?_ q0a.symm
  rw [l1.f]
  try simp only [el]
  kernel_rfl
noncomputable def l0.f (K : Nat) : Nat → List q0l → Int → Int → Option ((Unit) ⊕ (Err))
  | 0, _, _, _ => none
  | k + 1, a1, a2, a3 => bif decide (a3 < a2) then bif decide ((0 : Int) ≤ a3) && true then a1[a3.toNat]?.bind fun t => (q37.f K t.1 t.2.1.1 t.2.1.2 t.2.2.1.1 t.2.2.1.2 t.2.2.2).bind fun t => bif !t then (q1d.f K (Err.no (13 : Int)) [(0 : Int), a3]).bind fun t => some (Sum.inr t) else l0.f K k a1 a2 (IntKind.i64.wrap (a3 + (1 : Int))) else none else some (Sum.inl ())
noncomputable def l0.b (K : Nat) : Lp M 0 := q3s (X K) 7 116 0 (q01 Tryz.f32 0) ⟨[2, 3, 4, 49, 50, 51], (.cons (.ty .bool) (.cons (.ptr 0 0) (.cons (.ptr 1 0) (.cons (.ty (.slice q15)) (.cons (.ty yI) (.ty yI)))))), [hh17, hh50]⟩ ⟨[2, 3, 4], (.cons (.ty .bool) (.cons (.ptr 0 0) (.ptr 1 0))), [hh17, hh50]⟩ ss1d K [] (fun k (x : ((Bool × (Unit × (Unit × ((List q0l) × (Int × Int))))) × (((List Int) × ((List q0x) × (List q0g))) × (((List q0l) × ((List q06) × (List LSum))) × Unit)))) => l0.f K k x.1.2.2.2.1 x.1.2.2.2.2.1 x.1.2.2.2.2.2) (fun x r => ((x.1.1, (), ()), x.2)) (fun x r => (r, ())) fun k (x : ((Bool × (Unit × (Unit × ((List q0l) × (Int × Int))))) × (((List Int) × ((List q0x) × (List q0g))) × (((List q0l) × ((List q06) × (List LSum))) × Unit)))) => by
  refine Eq.trans ?_ q0a.symm
  rw [l0.f]
  try simp only [el]
  kernel_rfl
noncomputable def f (K : Nat) (a0 : List Int) (a1 : List q0x) (a2 : List q0g) (a3 : List q0l) (a4 : List q06) (a5 : List LSum) (a6 : Bool) : Option (Err) := (q2g.f K a0 a1 a2).bind fun t => bif bif true then !t.isNil else t.isNil then some t else q1g (bif (↑a3.length : Int) != (↑a0.length : Int) then some true else bif (↑a4.length : Int) != (↑a1.length : Int) then some true else some ((↑a5.length : Int) != (↑a2.length : Int))) fun t => bif t then some (Err.no (12 : Int)) else (l0.f K K a3 (↑a3.length : Int) (0 : Int)).bind fun t => Sum.elim (fun t => (q4u.f K a1).bind fun t => (l1.f K K a4 (↑a4.length : Int) (0 : Int) a1 t a6).bind fun t => Sum.elim (fun t => (l2.f K K a5 (↑a5.length : Int) (0 : Int) a2).bind fun t => Sum.elim (fun t => some Err.nil) (fun t => some t) t) (fun t => some t) t) (fun t => some t) t
noncomputable def e (K : Nat) : En M := fnE (X K) 32 Tryz.func32 ⟨sh4e, [], (.ty .err), []⟩ [l0.b K, l1.b K, l2.b K] (fun (x : ((((List Int) × ((List q0x) × (List q0g))) × (((List q0l) × ((List q06) × (List LSum))) × Bool)) × Unit)) => f K x.1.1.1 x.1.1.2.1 x.1.1.2.2 x.1.2.1.1 x.1.2.1.2.1 x.1.2.1.2.2 x.1.2.2) (fun x r => (r, ())) fun (x : ((((List Int) × ((List q0x) × (List q0g))) × (((List q0l) × ((List q06) × (List LSum))) × Bool)) × Unit)) => by
  refine Eq.trans ?_ q0a.symm
  rw [f]
  try simp only [el]
  kernel_rfl
end q2i
namespace q32
noncomputable def X (K : Nat) : Fx M 2 := { hmx := mxd, nt := 68, cs := [q37.e K, q0n.e K, q1u.e K] }
noncomputable def l0.f (K : Nat) : Nat → Int → Int → List Int → List Int → Option (List Int)
  | 0, _, _, _, _ => none
  | k + 1, a0, a1, a2, a3 => bif decide (a1 < a0) then bif decide ((0 : Int) ≤ a1) then bif a1.toNat.blt a2.length then a2[a1.toNat]?.bind fun t => (q1u.f K t a3).bind fun t => l0.f K k a0 (IntKind.i64.wrap (a1 + (1 : Int))) a2 t else none else none else some a3
noncomputable def l0.b (K : Nat) : Lp M 2 := q24 (X K) 13 68 0 (q01 Tryz.f38 0) ⟨[0, 58, 59, 60], sh51, [hh3b, .dead, .list 2 yI [], .list 5 (.int .u8) []]⟩ ⟨[], .unit, hs2e⟩ K [] (fun k x => l0.f K k x.1.2.2.1 x.1.2.2.2 x.2.2.2.1 x.2.2.2.2.1) (fun x r => ((), (), (), r, ())) fun k x => by
  rw [q0a, l0.f]
  try simp only [el]
  kernel_rfl
noncomputable def f (K : Nat) (a0 : Int) (a1 : Bool) (a2 : Int) (a3 : Int) (a4 : Int) (a5 : Int) (a6 : List Int) : Option (Err × List Int) := (q37.f K a0 a1 a2 a3 a4 a5).bind fun t => bif !t then some (Err.no (13 : Int), a6) else bif a1 then bif a3 != (-9223372036854775808 : Int) then bif a4 != (9223372036854775807 : Int) then (q0n.f K (IntKind.u8.wrap (IntKind.i64.wrap (↑(BitVec.ofInt (64 : Nat) (IntKind.i64.wrap (↑(BitVec.ofInt (64 : Nat) (IntKind.i64.wrap (↑(BitVec.ofInt (64 : Nat) (IntKind.i64.wrap (↑(BitVec.ofInt (64 : Nat) a0 ||| BitVec.ofInt (64 : Nat) (IntKind.i64.wrap (a5 * (2 : Int) ^ (4 : Nat)))).toNat : Int)) ||| BitVec.ofInt (64 : Nat) (8 : Int)).toNat : Int)) ||| BitVec.ofInt (64 : Nat) (64 : Int)).toNat : Int)) ||| BitVec.ofInt (64 : Nat) (128 : Int)).toNat : Int))) a6).bind fun t => (l0.f K K (↑([] ++ [a2] ++ [a3] ++ [a4]).length : Int) (0 : Int) ([] ++ [a2] ++ [a3] ++ [a4]) t).bind fun t => some (Err.nil, t) else (q0n.f K (IntKind.u8.wrap (IntKind.i64.wrap (↑(BitVec.ofInt (64 : Nat) (IntKind.i64.wrap (↑(BitVec.ofInt (64 : Nat) (IntKind.i64.wrap (↑(BitVec.ofInt (64 : Nat) a0 ||| BitVec.ofInt (64 : Nat) (IntKind.i64.wrap (a5 * (2 : Int) ^ (4 : Nat)))).toNat : Int)) ||| BitVec.ofInt (64 : Nat) (8 : Int)).toNat : Int)) ||| BitVec.ofInt (64 : Nat) (64 : Int)).toNat : Int))) a6).bind fun t => (l0.f K K (↑([] ++ [a2] ++ [a3]).length : Int) (0 : Int) ([] ++ [a2] ++ [a3]) t).bind fun t => some (Err.nil, t) else bif a4 != (9223372036854775807 : Int) then (q0n.f K (IntKind.u8.wrap (IntKind.i64.wrap (↑(BitVec.ofInt (64 : Nat) (IntKind.i64.wrap (↑(BitVec.ofInt (64 : Nat) (IntKind.i64.wrap (↑(BitVec.ofInt (64 : Nat) a0 ||| BitVec.ofInt (64 : Nat) (IntKind.i64.wrap (a5 * (2 : Int) ^ (4 : Nat)))).toNat : Int)) ||| BitVec.ofInt (64 : Nat) (8 : Int)).toNat : Int)) ||| BitVec.ofInt (64 : Nat) (128 : Int)).toNat : Int))) a6).bind fun t => (l0.f K K (↑([] ++ [a2] ++ [a4]).length : Int) (0 : Int) ([] ++ [a2] ++ [a4]) t).bind fun t => some (Err.nil, t) else (q0n.f K (IntKind.u8.wrap (IntKind.i64.wrap (↑(BitVec.ofInt (64 : Nat) (IntKind.i64.wrap (↑(BitVec.ofInt (64 : Nat) a0 ||| BitVec.ofInt (64 : Nat) (IntKind.i64.wrap (a5 * (2 : Int) ^ (4 : Nat)))).toNat : Int)) ||| BitVec.ofInt (64 : Nat) (8 : Int)).toNat : Int))) a6).bind fun t => (l0.f K K (↑([] ++ [a2]).length : Int) (0 : Int) ([] ++ [a2]) t).bind fun t => some (Err.nil, t) else bif a3 != (-9223372036854775808 : Int) then bif a4 != (9223372036854775807 : Int) then (q0n.f K (IntKind.u8.wrap (IntKind.i64.wrap (↑(BitVec.ofInt (64 : Nat) (IntKind.i64.wrap (↑(BitVec.ofInt (64 : Nat) (IntKind.i64.wrap (↑(BitVec.ofInt (64 : Nat) a0 ||| BitVec.ofInt (64 : Nat) (IntKind.i64.wrap (a5 * (2 : Int) ^ (4 : Nat)))).toNat : Int)) ||| BitVec.ofInt (64 : Nat) (64 : Int)).toNat : Int)) ||| BitVec.ofInt (64 : Nat) (128 : Int)).toNat : Int))) a6).bind fun t => (l0.f K K (↑([] ++ [a3] ++ [a4]).length : Int) (0 : Int) ([] ++ [a3] ++ [a4]) t).bind fun t => some (Err.nil, t) else (q0n.f K (IntKind.u8.wrap (IntKind.i64.wrap (↑(BitVec.ofInt (64 : Nat) (IntKind.i64.wrap (↑(BitVec.ofInt (64 : Nat) a0 ||| BitVec.ofInt (64 : Nat) (IntKind.i64.wrap (a5 * (2 : Int) ^ (4 : Nat)))).toNat : Int)) ||| BitVec.ofInt (64 : Nat) (64 : Int)).toNat : Int))) a6).bind fun t => (l0.f K K (↑([] ++ [a3]).length : Int) (0 : Int) ([] ++ [a3]) t).bind fun t => some (Err.nil, t) else bif a4 != (9223372036854775807 : Int) then (q0n.f K (IntKind.u8.wrap (IntKind.i64.wrap (↑(BitVec.ofInt (64 : Nat) (IntKind.i64.wrap (↑(BitVec.ofInt (64 : Nat) a0 ||| BitVec.ofInt (64 : Nat) (IntKind.i64.wrap (a5 * (2 : Int) ^ (4 : Nat)))).toNat : Int)) ||| BitVec.ofInt (64 : Nat) (128 : Int)).toNat : Int))) a6).bind fun t => (l0.f K K (↑([] ++ [a4]).length : Int) (0 : Int) ([] ++ [a4]) t).bind fun t => some (Err.nil, t) else (q0n.f K (IntKind.u8.wrap (IntKind.i64.wrap (↑(BitVec.ofInt (64 : Nat) a0 ||| BitVec.ofInt (64 : Nat) (IntKind.i64.wrap (a5 * (2 : Int) ^ (4 : Nat)))).toNat : Int))) a6).bind fun t => (l0.f K K (↑(0 : Nat) : Int) (0 : Int) [] t).bind fun t => some (Err.nil, t)
noncomputable def e (K : Nat) : En M := fnE (X K) 38 Tryz.func38 ⟨(.cons (.ptr 0 0) (.agg (.cons (.ty yI) (.cons (.ty .bool) (.cons (.ty yI) (.cons (.ty yI) (.cons (.ty yI) (.ty yI)))))))), hs2d, (.ty .err), hs2e⟩ [l0.b K] (fun (x : ((Unit × (Int × (Bool × (Int × (Int × (Int × Int)))))) × (Unit × ((List Int) × Unit)))) => f K x.1.2.1 x.1.2.2.1 x.1.2.2.2.1 x.1.2.2.2.2.1 x.1.2.2.2.2.2.1 x.1.2.2.2.2.2.2 x.2.2.1) (fun x r => (r.1, (), (), r.2, ())) fun (x : ((Unit × (Int × (Bool × (Int × (Int × (Int × Int)))))) × (Unit × ((List Int) × Unit)))) => by
  refine Eq.trans ?_ q0a.symm
  rw [f]
  try simp only [el]
  kernel_rfl
end q32
namespace q4w
noncomputable def X (K : Nat) : Fx M 2 := { hmx := mxd, nt := 37, cs := [q0n.e K, q32.e K] }
noncomputable def l0.f (K : Nat) : Nat → Int → Int → List q0l → List Int → Option (List Int)
  | 0, _, _, _, _ => none
  | k + 1, a0, a1, a2, a3 => bif decide (a1 < a0) then bif decide ((0 : Int) ≤ a1) then bif a1.toNat.blt a2.length then a2[a1.toNat]?.bind fun t => (q32.f K t.1 t.2.1.1 t.2.1.2 t.2.2.1.1 t.2.2.1.2 t.2.2.2 a3).bind fun t => l0.f K k a0 (IntKind.i64.wrap (a1 + (1 : Int))) a2 t.2 else none else none else some a3
noncomputable def l0.b (K : Nat) : Lp M 2 := q24 (X K) 8 37 0 (q01 Tryz.f39 0) ⟨[0, 27, 28, 29], sh51, [hh3b, .dead, .list 74 q15 [], .list 5 (.int .u8) []]⟩ ⟨[], .unit, hs2e⟩ K [] (fun k x => l0.f K k x.1.2.2.1 x.1.2.2.2 x.2.2.2.1 x.2.2.2.2.1) (fun x r => ((), (), (), r, ())) fun k x => by
  rw [q0a, l0.f]
  try simp only [el]
  kernel_rfl
noncomputable def f (K : Nat) (a0 : Bool) (a1 : List q0l) (a2 : Bool) (a3 : Int) (a4 : Bool) (a5 : Int) (a6 : Int) (a7 : Int) (a8 : Int) (a9 : List Int) : Option (List Int) := bif a0 then bif ((0 : Nat) + a1.length).ble (4000000 : Nat) then bif a2 then bif (([] ++ a1).length + [(a3, (a4, a5), (a6, a7), a8)].length).ble (4000000 : Nat) then (q0n.f K (IntKind.u8.wrap (IntKind.i64.wrap (↑(3 : Nat) : Int))) a9).bind fun t => l0.f K K (↑([] ++ a1 ++ [(a3, (a4, a5), (a6, a7), a8)]).length : Int) (0 : Int) ([] ++ a1 ++ [(a3, (a4, a5), (a6, a7), a8)]) t else none else (q0n.f K (IntKind.u8.wrap (1 : Int)) a9).bind fun t => l0.f K K (↑([] ++ a1).length : Int) (0 : Int) ([] ++ a1) t else none else bif a2 then (q0n.f K (IntKind.u8.wrap (IntKind.i64.wrap (↑(2 : Nat) : Int))) a9).bind fun t => l0.f K K (↑([] ++ [(a3, (a4, a5), (a6, a7), a8)]).length : Int) (0 : Int) ([] ++ [(a3, (a4, a5), (a6, a7), a8)]) t else (q0n.f K (IntKind.u8.wrap (0 : Int)) a9).bind fun t => l0.f K K (↑(0 : Nat) : Int) (0 : Int) [] t
noncomputable def e (K : Nat) : En M := fnE (X K) 39 Tryz.func39 ⟨(.cons (.ptr 0 0) (.agg (.cons (.ty .bool) (.cons (.ty (.slice q15)) (.cons (.ty .bool) (.cons (.ty yI) (.cons (.ty .bool) (.cons (.ty yI) (.cons (.ty yI) (.cons (.ty yI) (.ty yI))))))))))), hs2d, .unit, hs2e⟩ [l0.b K] (fun (x : ((Unit × (Bool × ((List q0l) × (Bool × (Int × (Bool × (Int × (Int × (Int × Int))))))))) × (Unit × ((List Int) × Unit)))) => f K x.1.2.1 x.1.2.2.1 x.1.2.2.2.1 x.1.2.2.2.2.1 x.1.2.2.2.2.2.1 x.1.2.2.2.2.2.2.1 x.1.2.2.2.2.2.2.2.1 x.1.2.2.2.2.2.2.2.2.1 x.1.2.2.2.2.2.2.2.2.2 x.2.2.1) (fun x r => ((), (), (), r, ())) fun (x : ((Unit × (Bool × ((List q0l) × (Bool × (Int × (Bool × (Int × (Int × (Int × Int))))))))) × (Unit × ((List Int) × Unit)))) => by
  refine Eq.trans ?_ q0a.symm
  rw [f]
  try simp only [el]
  kernel_rfl
end q4w
namespace q6s
noncomputable def f (K : Nat) (a0 : Int) (a1 : List Int) (a2 : List Int) : Option (Err × List Int) := (q23.f K a0 a1).bind fun t => bif !t then some (Err.no (1 : Int), a2) else (q5a.f K a0 a1).bind fun t => (q39.f K a0 a1 t).bind fun t => (q2j.f K t a2).bind fun t => some (Err.nil, t)
noncomputable def e (K : Nat) : En M := fnE (m := 2) { hmx := mxd, nt := 20, cs := [q23.e K, q5a.e K, q39.e K, q2j.e K] } 89 Tryz.func89 ⟨(.cons (.ptr 0 0) (.cons (.ty yI) (.ty (.slice yI)))), hs2d, (.ty .err), hs2e⟩ [] (fun x => f K x.1.2.1 x.1.2.2 x.2.2.1) (fun x r => (r.1, (), (), r.2, ())) fun x => by
  rw [q0a, f]
  try simp only [el]
  kernel_rfl
end q6s
namespace q28
noncomputable def X (K : Nat) : Fx M 2 := { hmx := mxd, nt := 50, cs := [q0n.e K, q32.e K, q6s.e K] }
noncomputable def l1.f (K : Nat) : Nat → Int → List (List Int) → Int → Int → List Int → Option (List Int)
  | 0, _, _, _, _, _ => none
  | k + 1, a1, a2, a3, a4, a9 => bif decide (a4 < a3) then bif decide ((0 : Int) ≤ a4) && true then a2[a4.toNat]?.bind fun t => (q6s.f K a1 t a9).bind fun t => l1.f K k a1 a2 a3 (IntKind.i64.wrap (a4 + (1 : Int))) t.2 else none else some a9
noncomputable def l1.b (K : Nat) : Lp M 2 := q24 (X K) 10 50 2 (q01 Tryz.f41 1) ⟨[0, 2, 3, 5, 34, 35, 36], (.cons (.ptr 0 0) (.cons (.ty yI) (.cons (.ty yI) (.cons (.ptr 2 0) (.cons (.ty (.slice (.slice yI))) (.cons (.ty yI) (.ty yI))))))), hs53⟩ ⟨[0, 2, 5], (.cons (.ptr 0 0) (.cons (.ty yI) (.ptr 2 0))), hs53⟩ K [] (fun k (x : ((Unit × (Int × (Int × (Unit × ((List (List Int)) × (Int × Int)))))) × (Unit × (Unit × ((Bool × ((List q0l) × ((List (List Int)) × (List Int)))) × ((List Int) × Unit)))))) => l1.f K k x.1.2.2.1 x.1.2.2.2.2.1 x.1.2.2.2.2.2.1 x.1.2.2.2.2.2.2 x.2.2.2.2.1) (fun x r => (((), x.1.2.1, ()), (), (), x.2.2.2.1, r, ())) fun k (x : ((Unit × (Int × (Int × (Unit × ((List (List Int)) × (Int × Int)))))) × (Unit × (Unit × ((Bool × ((List q0l) × ((List (List Int)) × (List Int)))) × ((List Int) × Unit)))))) => by
  refine Eq.trans ?_ q0a.symm
  rw [l1.f]
  try simp only [el]
  kernel_rfl
noncomputable def l0.f (K : Nat) : Nat → List q0l → Int → Int → List Int → Option (List Int)
  | 0, _, _, _, _ => none
  | k + 1, a2, a3, a4, a9 => bif decide (a4 < a3) then bif decide ((0 : Int) ≤ a4) && true then a2[a4.toNat]?.bind fun t => (q32.f K t.1 t.2.1.1 t.2.1.2 t.2.2.1.1 t.2.2.1.2 t.2.2.2 a9).bind fun t => l0.f K k a2 a3 (IntKind.i64.wrap (a4 + (1 : Int))) t.2 else none else some a9
noncomputable def l0.b (K : Nat) : Lp M 2 := q24 (X K) 5 50 0 (q01 Tryz.f41 0) ⟨[0, 2, 3, 5, 22, 23, 24], (.cons (.ptr 0 0) (.cons (.ty yI) (.cons (.ty yI) (.cons (.ptr 2 0) (.cons (.ty (.slice q15)) (.cons (.ty yI) (.ty yI))))))), hs53⟩ ⟨[0, 2, 3, 5], (.cons (.ptr 0 0) (.cons (.ty yI) (.cons (.ty yI) (.ptr 2 0)))), hs53⟩ K [] (fun k (x : ((Unit × (Int × (Int × (Unit × ((List q0l) × (Int × Int)))))) × (Unit × (Unit × ((Bool × ((List q0l) × ((List (List Int)) × (List Int)))) × ((List Int) × Unit)))))) => l0.f K k x.1.2.2.2.2.1 x.1.2.2.2.2.2.1 x.1.2.2.2.2.2.2 x.2.2.2.2.1) (fun x r => (((), x.1.2.1, x.1.2.2.1, ()), (), (), x.2.2.2.1, r, ())) fun k (x : ((Unit × (Int × (Int × (Unit × ((List q0l) × (Int × Int)))))) × (Unit × (Unit × ((Bool × ((List q0l) × ((List (List Int)) × (List Int)))) × ((List Int) × Unit)))))) => by
  refine Eq.trans ?_ q0a.symm
  rw [l0.f]
  try simp only [el]
  kernel_rfl
noncomputable def f (K : Nat) (a0 : Bool) (a1 : List q0l) (a2 : List (List Int)) (a3 : List Int) (a4 : Int) (a5 : Int) (a6 : List Int) : Option (List Int) := bif !a0 then (q0n.f K (0 : Int) a6).bind fun t => (q6s.f K a4 a3 t).bind fun t => some t.2 else (q0n.f K (1 : Int) a6).bind fun t => (l0.f K K a1 (↑a1.length : Int) (0 : Int) t).bind fun t => (l1.f K K a5 a2 (↑a2.length : Int) (0 : Int) t).bind fun t => (q6s.f K a4 a3 t).bind fun t => some t.2
noncomputable def e (K : Nat) : En M := fnE (X K) 41 Tryz.func41 ⟨(.cons (.ptr 0 0) (.cons (.agg (.cons (.ty .bool) (.cons (.ty (.slice q15)) (.cons (.ty (.slice (.slice yI))) (.ty (.slice yI)))))) (.cons (.ty yI) (.ty yI)))), hs2d, .unit, hs2e⟩ [l0.b K, l1.b K] (fun (x : ((Unit × ((Bool × ((List q0l) × ((List (List Int)) × (List Int)))) × (Int × Int))) × (Unit × ((List Int) × Unit)))) => f K x.1.2.1.1 x.1.2.1.2.1 x.1.2.1.2.2.1 x.1.2.1.2.2.2 x.1.2.2.1 x.1.2.2.2 x.2.2.1) (fun x r => ((), (), (), r, ())) fun (x : ((Unit × ((Bool × ((List q0l) × ((List (List Int)) × (List Int)))) × (Int × Int))) × (Unit × ((List Int) × Unit)))) => by
  refine Eq.trans ?_ q0a.symm
  rw [f]
  try simp only [el]
  kernel_rfl
end q28
namespace q1v
noncomputable def X (K : Nat) : Fx M 0 := { hmx := mxd, nt := 120, cs := [q2i.e K, q2o.e K, q4b.e K, q4o.e K, q2j.e K, q0n.e K, q1o.e K, q32.e K, q4u.e K, q4w.e K, q3u.e K, q28.e K, q1s.e K] }
noncomputable def l3.f (K : Nat) : Nat → List LSum → Int → Int → List Int → Option (List Int)
  | 0, _, _, _, _ => none
  | k + 1, a0, a1, a2, a3 => bif decide (a2 < a1) then bif decide ((0 : Int) ≤ a2) && true then a0[a2.toNat]?.bind fun t => (q4w.f K t.1 t.2.1 t.2.2.1 t.2.2.2.1 t.2.2.2.2.1.1 t.2.2.2.2.1.2 t.2.2.2.2.2.1.1 t.2.2.2.2.2.1.2 t.2.2.2.2.2.2 a3).bind fun t => l3.f K k a0 a1 (IntKind.i64.wrap (a2 + (1 : Int))) t else none else some a3
noncomputable def l3.b (K : Nat) : Lp M 0 := q24 (X K) 32 120 6 (q01 Tryz.f10 3) ⟨[11, 108, 109, 110], sh4f, hs2d⟩ ⟨[11], (.ptr 0 0), hs2d⟩ K [] (fun k x => l3.f K k x.1.2.1 x.1.2.2.1 x.1.2.2.2 x.2.2.1) (fun x r => ((), (), r, ())) fun k x => by
  rw [q0a, l3.f]
  try simp only [el]
  kernel_rfl
noncomputable def l2.f (K : Nat) : Nat → Int → Int → List Int → Int → Int → List q0x → List q1l → List Int → Option (List Int)
  | 0, _, _, _, _, _, _, _, _ => none
  | k + 1, a1, a2, a6, a7, a8, a10, a24, a26 => bif decide (a8 < a7) then bif decide ((0 : Int) ≤ a8) && true then a6[a8.toNat]?.bind fun t => bif decide ((0 : Int) ≤ t) && true then a24[Int.toNat t]?.bind fun t => bif decide ((0 : Int) ≤ a2) && true then a10[a2.toNat]?.bind fun t_1 => (q28.f K t.1.1 t.1.2.1 t.1.2.2 t.2 t_1.2.2.1 a1 a26).bind fun t => l2.f K k a1 a2 a6 a7 (IntKind.i64.wrap (a8 + (1 : Int))) a10 a24 t else none else none else none else some a26
noncomputable def l2.b (K : Nat) : Lp M 0 := q24 (X K) 25 120 4 (q01 Tryz.f10 2) ⟨[2, 3, 4, 11, 14, 15, 16, 17, 63, 64, 65, 81, 82, 83], (.cons (.ty .bool) (.cons (.ptr 0 0) (.cons (.ptr 1 0) (.cons (.ptr 2 0) (.cons (.ty yI) (.cons (.ty yI) (.cons (.ptr 3 0) (.cons (.ptr 4 0) (.cons (.ty (.slice q4c)) (.cons (.ty yI) (.cons (.ty yI) (.cons (.ty (.slice yI)) (.cons (.ty yI) (.ty yI)))))))))))))), [hh17, hh50, .cells 213 0 (.own 5), .cells 83 0 (.cons (.ty .bool) (.cons (.ty (.slice q15)) (.cons (.ty .bool) (.cons (.ty yI) (.cons (.ty .bool) (.cons (.ty yI) (.cons (.ty yI) (.cons (.ty yI) (.cons (.ty yI) (.ty (.slice q3e))))))))))), .cells 213 0 (.own 6), .list 5 (.int .u8) [], .list 5 (.int .u8) []]⟩ ⟨[2, 3, 4, 11, 14, 17, 63, 64, 65], (.cons (.ty .bool) (.cons (.ptr 0 0) (.cons (.ptr 1 0) (.cons (.ptr 2 0) (.cons (.ty yI) (.cons (.ptr 3 0) (.cons (.ty (.slice q4c)) (.cons (.ty yI) (.ty yI))))))))), [hh17, hh50, .cells 213 0 (.own 4), .cells 213 0 (.own 5), .list 5 (.int .u8) [], .list 5 (.int .u8) []]⟩ K [] (fun k (x : ((Bool × (Unit × (Unit × (Unit × (Int × (Int × (Unit × (Unit × ((List q06) × (Int × (Int × ((List Int) × (Int × Int))))))))))))) × (((List Int) × ((List q0x) × (List q0g))) × (((List q0l) × ((List q06) × (List LSum))) × (Unit × ((Bool × ((List q0l) × (Bool × (Int × (Bool × (Int × (Int × (Int × (Int × (List q1l)))))))))) × (Unit × ((List Int) × ((List Int) × Unit))))))))) => l2.f K k x.1.2.2.2.2.1 x.1.2.2.2.2.2.1 x.1.2.2.2.2.2.2.2.2.2.2.2.1 x.1.2.2.2.2.2.2.2.2.2.2.2.2.1 x.1.2.2.2.2.2.2.2.2.2.2.2.2.2 x.2.1.2.1 x.2.2.2.2.1.2.2.2.2.2.2.2.2.2 x.2.2.2.2.2.2.2.1) (fun x r => ((x.1.1, (), (), (), x.1.2.2.2.2.1, (), x.1.2.2.2.2.2.2.2.2.1, x.1.2.2.2.2.2.2.2.2.2.1, x.1.2.2.2.2.2.2.2.2.2.2.1), x.2.1, x.2.2.1, (), (), x.2.2.2.2.2.2.1, r, ())) fun k (x : ((Bool × (Unit × (Unit × (Unit × (Int × (Int × (Unit × (Unit × ((List q06) × (Int × (Int × ((List Int) × (Int × Int))))))))))))) × (((List Int) × ((List q0x) × (List q0g))) × (((List q0l) × ((List q06) × (List LSum))) × (Unit × ((Bool × ((List q0l) × (Bool × (Int × (Bool × (Int × (Int × (Int × (Int × (List q1l)))))))))) × (Unit × ((List Int) × ((List Int) × Unit))))))))) => by
  refine Eq.trans ?_ q0a.symm
  rw [l2.f]
  try simp only [el]
  kernel_rfl
noncomputable def l1.f (K : Nat) : Nat → Bool → Int → List q06 → Int → Int → List q0x → List Int → Option (List Int)
  | 0, _, _, _, _, _, _, _ => none
  | k + 1, a0, a1, a2, a3, a4, a6, a11 => bif decide (a4 < a3) then bif decide ((0 : Int) ≤ a4) && true then a2[a4.toNat]?.bind fun t => (q4b.f K).bind fun t_1 => (q4w.f K t.1.1 t.1.2.1 t.1.2.2.1 t.1.2.2.2.1 t.1.2.2.2.2.1.1 t.1.2.2.2.2.1.2 t.1.2.2.2.2.2.1.1 t.1.2.2.2.2.2.1.2 t.1.2.2.2.2.2.2 t_1).bind fun t_2 => bif decide ((0 : Int) ≤ a4) && true then a6[a4.toNat]?.bind fun t_3 => (q3u.f K t_3.2.2.2 a0).bind fun t_4 => (l2.f K K a1 a4 t_4 (↑t_4.length : Int) (0 : Int) a6 t.2 t_2).bind fun t => (q1s.f K t).bind fun t => (q1o.f K t a11).bind fun t => l1.f K k a0 a1 a2 a3 (IntKind.i64.wrap (a4 + (1 : Int))) a6 t else none else none else some a11
noncomputable def l1.b (K : Nat) : Lp M 0 := q24 (X K) 20 120 2 (q01 Tryz.f10 1) ⟨[2, 3, 4, 11, 14, 63, 64, 65], (.cons (.ty .bool) (.cons (.ptr 0 0) (.cons (.ptr 1 0) (.cons (.ptr 2 0) (.cons (.ty yI) (.cons (.ty (.slice q4c)) (.cons (.ty yI) (.ty yI)))))))), hs54⟩ ⟨[4, 11], sh1c, [hh50, .cells 213 0 (.own 2), .list 5 (.int .u8) []]⟩ K [l2.b K] (fun k (x : ((Bool × (Unit × (Unit × (Unit × (Int × ((List q06) × (Int × Int))))))) × (((List Int) × ((List q0x) × (List q0g))) × (((List q0l) × ((List q06) × (List LSum))) × (Unit × ((List Int) × Unit)))))) => l1.f K k x.1.1 x.1.2.2.2.2.1 x.1.2.2.2.2.2.1 x.1.2.2.2.2.2.2.1 x.1.2.2.2.2.2.2.2 x.2.1.2.1 x.2.2.2.2.1) (fun x r => (((), ()), x.2.2.1, (), r, ())) fun k (x : ((Bool × (Unit × (Unit × (Unit × (Int × ((List q06) × (Int × Int))))))) × (((List Int) × ((List q0x) × (List q0g))) × (((List q0l) × ((List q06) × (List LSum))) × (Unit × ((List Int) × Unit)))))) => by
  refine Eq.trans ?_ q0a.symm
  rw [l1.f]
  try simp only [el]
  kernel_rfl
noncomputable def l0.f (K : Nat) : Nat → List q0l → Int → Int → List Int → Option (List Int)
  | 0, _, _, _, _ => none
  | k + 1, a1, a2, a3, a10 => bif decide (a3 < a2) then bif decide ((0 : Int) ≤ a3) && true then a1[a3.toNat]?.bind fun t => (q32.f K t.1 t.2.1.1 t.2.1.2 t.2.2.1.1 t.2.2.1.2 t.2.2.2 a10).bind fun t => l0.f K k a1 a2 (IntKind.i64.wrap (a3 + (1 : Int))) t.2 else none else some a10
noncomputable def l0.b (K : Nat) : Lp M 0 := q24 (X K) 14 120 0 (q01 Tryz.f10 0) ⟨[2, 3, 4, 11, 50, 51, 52], (.cons (.ty .bool) (.cons (.ptr 0 0) (.cons (.ptr 1 0) (.cons (.ptr 2 0) (.cons (.ty (.slice q15)) (.cons (.ty yI) (.ty yI))))))), hs54⟩ ⟨[2, 3, 4, 11], (.cons (.ty .bool) (.cons (.ptr 0 0) (.cons (.ptr 1 0) (.ptr 2 0)))), hs54⟩ K [] (fun k (x : ((Bool × (Unit × (Unit × (Unit × ((List q0l) × (Int × Int)))))) × (((List Int) × ((List q0x) × (List q0g))) × (((List q0l) × ((List q06) × (List LSum))) × (Unit × ((List Int) × Unit)))))) => l0.f K k x.1.2.2.2.2.1 x.1.2.2.2.2.2.1 x.1.2.2.2.2.2.2 x.2.2.2.2.1) (fun x r => ((x.1.1, (), (), ()), x.2.1, x.2.2.1, (), r, ())) fun k (x : ((Bool × (Unit × (Unit × (Unit × ((List q0l) × (Int × Int)))))) × (((List Int) × ((List q0x) × (List q0g))) × (((List q0l) × ((List q06) × (List LSum))) × (Unit × ((List Int) × Unit)))))) => by
  refine Eq.trans ?_ q0a.symm
  rw [l0.f]
  try simp only [el]
  kernel_rfl
noncomputable def f (K : Nat) (a0 : List Int) (a1 : List q0x) (a2 : List q0g) (a3 : List q0l) (a4 : List q06) (a5 : List LSum) (a6 : Bool) : Option (List Int × Err) := (q2i.f K a0 a1 a2 a3 a4 a5 a6).bind fun t => bif bif true then !t.isNil else t.isNil then some ([], t) else (q2o.f K a0 a1 a2).bind fun t => bif bif true then !t.2.isNil else t.2.isNil then some ([], t.2) else (q4b.f K).bind fun t_1 => (q4o.f K).bind fun t_2 => (q2j.f K t_2 t_1).bind fun t_3 => bif a6 then (q0n.f K (1 : Int) t_3).bind fun t_4 => (q1o.f K t.1 t_4).bind fun t => (l0.f K K a3 (↑a3.length : Int) (0 : Int) t).bind fun t => (q4u.f K a1).bind fun t_5 => (l1.f K K a6 t_5 a4 (↑a4.length : Int) (0 : Int) a1 t).bind fun t => (l3.f K K a5 (↑a5.length : Int) (0 : Int) t).bind fun t => (q1s.f K t).bind fun t => some (t, Err.nil) else (q0n.f K (0 : Int) t_3).bind fun t_4 => (q1o.f K t.1 t_4).bind fun t => (l0.f K K a3 (↑a3.length : Int) (0 : Int) t).bind fun t => (q4u.f K a1).bind fun t_5 => (l1.f K K a6 t_5 a4 (↑a4.length : Int) (0 : Int) a1 t).bind fun t => (l3.f K K a5 (↑a5.length : Int) (0 : Int) t).bind fun t => (q1s.f K t).bind fun t => some (t, Err.nil)
noncomputable def e (K : Nat) : En M := fnE (X K) 10 Tryz.func10 ⟨sh4e, [], sh3, []⟩ [l0.b K, l1.b K, l2.b K, l3.b K] (fun (x : ((((List Int) × ((List q0x) × (List q0g))) × (((List q0l) × ((List q06) × (List LSum))) × Bool)) × Unit)) => f K x.1.1.1 x.1.1.2.1 x.1.1.2.2 x.1.2.1.1 x.1.2.1.2.1 x.1.2.1.2.2 x.1.2.2) (fun x r => ((r.1, r.2), ())) fun (x : ((((List Int) × ((List q0x) × (List q0g))) × (((List q0l) × ((List q06) × (List LSum))) × Bool)) × Unit)) => by
  refine Eq.trans ?_ q0a.symm
  rw [f]
  try simp only [el]
  kernel_rfl
end q1v
namespace q12
noncomputable def X (K : Nat) : Fx M 0 := { hmx := mxd, nt := 26, cs := [] }
noncomputable def l0.f (K : Nat) : Nat → List Int → List Int → Int → Int → Option ((Unit) ⊕ (Bool))
  | 0, _, _, _, _ => none
  | k + 1, a0, a1, a2, a3 => bif decide (a3 < a2) then bif decide ((0 : Int) ≤ a3) && true then a0[a3.toNat]?.bind fun t => bif decide ((0 : Int) ≤ a3) && true then a1[a3.toNat]?.bind fun t_1 => bif t != t_1 then some (Sum.inr false) else l0.f K k a0 a1 a2 (IntKind.i64.wrap (a3 + (1 : Int))) else none else none else some (Sum.inl ())
noncomputable def l0.b (K : Nat) : Lp M 0 := q3s (X K) 4 26 0 (q01 Tryz.f43 0) ⟨[0, 1, 12, 13], sh56, []⟩ ss18 ss2b K [] (fun k x => l0.f K k x.1.1 x.1.2.1 x.1.2.2.1 x.1.2.2.2) (fun x r => ((), ())) (fun x r => (r, ())) fun k x => by
  rw [q0a, l0.f]
  try simp only [el]
  kernel_rfl
noncomputable def f (K : Nat) (a0 : List Int) (a1 : List Int) : Option (Bool) := bif (↑a0.length : Int) != (↑a1.length : Int) then some false else (l0.f K K a0 a1 (↑a0.length : Int) (0 : Int)).bind fun t => Sum.elim (fun t => some true) (fun t => some t) t
noncomputable def e (K : Nat) : En M := fnE (X K) 43 Tryz.func43 ⟨sh55, [], (.ty .bool), []⟩ [l0.b K] (fun x => f K x.1.1 x.1.2) (fun x r => (r, ())) fun x => by
  rw [q0a, f]
  try simp only [el]
  kernel_rfl
end q12
namespace q1i
noncomputable def X (K : Nat) : Fx M 0 := { hmx := mxd, nt := 26, cs := [] }
noncomputable def l0.f (K : Nat) : Nat → List q0g → List q0g → Int → Int → Option ((Unit) ⊕ (Bool))
  | 0, _, _, _, _ => none
  | k + 1, a0, a1, a2, a3 => bif decide (a3 < a2) then bif decide ((0 : Int) ≤ a3) && true then a0[a3.toNat]?.bind fun t => bif decide ((0 : Int) ≤ a3) && true then a1[a3.toNat]?.bind fun t_1 => bif bif true then !(t.1 == t_1.1 && t.2 == t_1.2) else t.1 == t_1.1 && t.2 == t_1.2 then some (Sum.inr false) else l0.f K k a0 a1 a2 (IntKind.i64.wrap (a3 + (1 : Int))) else none else none else some (Sum.inl ())
noncomputable def l0.b (K : Nat) : Lp M 0 := q3s (X K) 4 26 0 (q01 Tryz.f44 0) ⟨[0, 1, 12, 13], (.cons (.ty (.slice q2h)) (.cons (.ty (.slice q2h)) (.cons (.ty yI) (.ty yI)))), []⟩ ss18 ss2b K [] (fun k x => l0.f K k x.1.1 x.1.2.1 x.1.2.2.1 x.1.2.2.2) (fun x r => ((), ())) (fun x r => (r, ())) fun k x => by
  rw [q0a, l0.f]
  try simp only [el]
  kernel_rfl
noncomputable def f (K : Nat) (a0 : List q0g) (a1 : List q0g) : Option (Bool) := bif (↑a0.length : Int) != (↑a1.length : Int) then some false else (l0.f K K a0 a1 (↑a0.length : Int) (0 : Int)).bind fun t => Sum.elim (fun t => some true) (fun t => some t) t
noncomputable def e (K : Nat) : En M := fnE (X K) 44 Tryz.func44 ⟨(.cons (.ty (.slice q2h)) (.ty (.slice q2h))), [], (.ty .bool), []⟩ [l0.b K] (fun x => f K x.1.1 x.1.2) (fun x r => (r, ())) fun x => by
  rw [q0a, f]
  try simp only [el]
  kernel_rfl
end q1i
namespace q14
noncomputable def X (K : Nat) : Fx M 0 := { hmx := mxd, nt := 26, cs := [] }
noncomputable def l0.f (K : Nat) : Nat → List Int → List Int → Int → Int → Option ((Unit) ⊕ (Bool))
  | 0, _, _, _, _ => none
  | k + 1, a0, a1, a2, a3 => bif decide (a3 < a2) then bif decide ((0 : Int) ≤ a3) && true then a0[a3.toNat]?.bind fun t => bif decide ((0 : Int) ≤ a3) && true then a1[a3.toNat]?.bind fun t_1 => bif t != t_1 then some (Sum.inr false) else l0.f K k a0 a1 a2 (IntKind.i64.wrap (a3 + (1 : Int))) else none else none else some (Sum.inl ())
noncomputable def l0.b (K : Nat) : Lp M 0 := q3s (X K) 4 26 0 (q01 Tryz.f93 0) ⟨[0, 1, 12, 13], sh56, []⟩ ss18 ss2b K [] (fun k x => l0.f K k x.1.1 x.1.2.1 x.1.2.2.1 x.1.2.2.2) (fun x r => ((), ())) (fun x r => (r, ())) fun k x => by
  rw [q0a, l0.f]
  try simp only [el]
  kernel_rfl
noncomputable def f (K : Nat) (a0 : List Int) (a1 : List Int) : Option (Bool) := bif (↑a0.length : Int) != (↑a1.length : Int) then some false else (l0.f K K a0 a1 (↑a0.length : Int) (0 : Int)).bind fun t => Sum.elim (fun t => some true) (fun t => some t) t
noncomputable def e (K : Nat) : En M := fnE (X K) 93 Tryz.func93 ⟨sh55, [], (.ty .bool), []⟩ [l0.b K] (fun x => f K x.1.1 x.1.2) (fun x r => (r, ())) fun x => by
  rw [q0a, f]
  try simp only [el]
  kernel_rfl
end q14
namespace q7b
noncomputable def X (K : Nat) : Fx M 0 := { hmx := mxd, nt := 45, cs := [q14.e K], cp := [(1, [.bool], [4])] }
noncomputable def f (K : Nat) (a0 : Int) (a1 : Int) (a2 : Int) (a3 : Int) (a4 : Int) (a5 : List Int) (a6 : Int) (a7 : Int) (a8 : Int) (a9 : Int) (a10 : Int) (a11 : List Int) : Option (Bool) := q1g (bif a0 == a6 then bif a1 == a7 then bif a2 == a8 then bif a3 == a9 then bif a4 == a10 then (q14.f K a5 a11).bind fun t => some t else some false else some false else some false else some false else some false) fun t => some t
noncomputable def e (K : Nat) : En M := fnE (X K) 155 Tryz.func155 ⟨(.cons (.agg (.cons (.ty yI) (.cons (.ty yI) (.cons (.ty yI) (.cons (.ty yI) (.cons (.ty yI) (.ty (.slice yI)))))))) (.agg (.cons (.ty yI) (.cons (.ty yI) (.cons (.ty yI) (.cons (.ty yI) (.cons (.ty yI) (.ty (.slice yI))))))))), [], (.ty .bool), []⟩ [] (fun x => f K x.1.1.1 x.1.1.2.1 x.1.1.2.2.1 x.1.1.2.2.2.1 x.1.1.2.2.2.2.1 x.1.1.2.2.2.2.2 x.1.2.1 x.1.2.2.1 x.1.2.2.2.1 x.1.2.2.2.2.1 x.1.2.2.2.2.2.1 x.1.2.2.2.2.2.2) (fun x r => (r, ())) fun x => by
  rw [q0a, f]
  try simp only [el]
  kernel_rfl
end q7b
namespace q0w
noncomputable def X (K : Nat) : Fx M 0 := { hmx := mxd, nt := 32, cs := [q7b.e K] }
noncomputable def l0.f (K : Nat) : Nat → List q3n → List q3n → Int → Int → Option ((Unit) ⊕ (Bool))
  | 0, _, _, _, _ => none
  | k + 1, a0, a1, a2, a3 => bif decide (a3 < a2) then bif decide ((0 : Int) ≤ a3) && true then a1[a3.toNat]?.bind fun t => bif decide ((0 : Int) ≤ a3) && true then a0[a3.toNat]?.bind fun t_1 => (q7b.f K t.1 t.2.1 t.2.2.1 t.2.2.2.1 t.2.2.2.2.1 t.2.2.2.2.2 t_1.1 t_1.2.1 t_1.2.2.1 t_1.2.2.2.1 t_1.2.2.2.2.1 t_1.2.2.2.2.2).bind fun t => bif !t then some (Sum.inr false) else l0.f K k a0 a1 a2 (IntKind.i64.wrap (a3 + (1 : Int))) else none else none else some (Sum.inl ())
noncomputable def l0.b (K : Nat) : Lp M 0 := q3s (X K) 4 32 0 (q01 Tryz.f154 0) ⟨[1, 2, 15, 16, 17], (.cons (.ty (.slice q6t)) (.cons (.fn 155 .unit .unit) (.cons (.ty (.slice q6t)) (.cons (.ty yI) (.ty yI))))), []⟩ ss18 ss4c K [] (fun k x => l0.f K k x.1.1 x.1.2.2.1 x.1.2.2.2.1 x.1.2.2.2.2) (fun x r => ((), ())) (fun x r => (r, ())) fun k x => by
  rw [q0a, l0.f]
  try simp only [el]
  kernel_rfl
noncomputable def f (K : Nat) (a0 : List q3n) (a1 : List q3n) : Option (Bool) := bif (↑a0.length : Int) != (↑a1.length : Int) then some false else (l0.f K K a1 a0 (↑a0.length : Int) (0 : Int)).bind fun t => Sum.elim (fun t => some true) (fun t => some t) t
noncomputable def e (K : Nat) : En M := fnE (X K) 154 Tryz.func154 ⟨(.cons (.ty (.slice q6t)) (.cons (.ty (.slice q6t)) (.fn 155 .unit .unit))), [], (.ty .bool), []⟩ [l0.b K] (fun x => f K x.1.1 x.1.2.1) (fun x r => (r, ())) fun x => by
  rw [q0a, f]
  try simp only [el]
  kernel_rfl
end q0w
namespace q52
noncomputable def X (K : Nat) : Fx M 0 := { hmx := mxd, nt := 17, cs := [q0w.e K], cp := [(1, [.bool], [4])] }
noncomputable def f (K : Nat) (a0 : List q3n) (a1 : Int) (a2 : Int) (a3 : Int) (a4 : Int) (a5 : List q3n) (a6 : Int) (a7 : Int) (a8 : Int) (a9 : Int) : Option (Bool) := q1g (bif bif false then !(a1 == a6 && (a2 == a7 && (a3 == a8 && a4 == a9))) else a1 == a6 && (a2 == a7 && (a3 == a8 && a4 == a9)) then (q0w.f K a0 a5).bind fun t => some t else some false) fun t => some t
noncomputable def e (K : Nat) : En M := fnE (X K) 91 Tryz.func91 ⟨(.cons (.agg (.cons (.ty (.slice q6t)) (.cons (.ty yI) (.cons (.ty yI) (.cons (.ty yI) (.ty yI)))))) (.agg (.cons (.ty (.slice q6t)) (.cons (.ty yI) (.cons (.ty yI) (.cons (.ty yI) (.ty yI))))))), [], (.ty .bool), []⟩ [] (fun x => f K x.1.1.1 x.1.1.2.1 x.1.1.2.2.1 x.1.1.2.2.2.1 x.1.1.2.2.2.2 x.1.2.1 x.1.2.2.1 x.1.2.2.2.1 x.1.2.2.2.2.1 x.1.2.2.2.2.2) (fun x r => (r, ())) fun x => by
  rw [q0a, f]
  try simp only [el]
  kernel_rfl
end q52
namespace q0t
noncomputable def X (K : Nat) : Fx M 0 := { hmx := mxd, nt := 32, cs := [q52.e K] }
noncomputable def l0.f (K : Nat) : Nat → List q1m → List q1m → Int → Int → Option ((Unit) ⊕ (Bool))
  | 0, _, _, _, _ => none
  | k + 1, a0, a1, a2, a3 => bif decide (a3 < a2) then bif decide ((0 : Int) ≤ a3) && true then a1[a3.toNat]?.bind fun t => bif decide ((0 : Int) ≤ a3) && true then a0[a3.toNat]?.bind fun t_1 => (q52.f K t.1 t.2.1 t.2.2.1 t.2.2.2.1 t.2.2.2.2 t_1.1 t_1.2.1 t_1.2.2.1 t_1.2.2.2.1 t_1.2.2.2.2).bind fun t => bif !t then some (Sum.inr false) else l0.f K k a0 a1 a2 (IntKind.i64.wrap (a3 + (1 : Int))) else none else none else some (Sum.inl ())
noncomputable def l0.b (K : Nat) : Lp M 0 := q3s (X K) 4 32 0 (q01 Tryz.f90 0) ⟨[1, 2, 15, 16, 17], (.cons (.ty (.slice q2r)) (.cons (.fn 91 .unit .unit) (.cons (.ty (.slice q2r)) (.cons (.ty yI) (.ty yI))))), []⟩ ss18 ss4c K [] (fun k x => l0.f K k x.1.1 x.1.2.2.1 x.1.2.2.2.1 x.1.2.2.2.2) (fun x r => ((), ())) (fun x r => (r, ())) fun k x => by
  rw [q0a, l0.f]
  try simp only [el]
  kernel_rfl
noncomputable def f (K : Nat) (a0 : List q1m) (a1 : List q1m) : Option (Bool) := bif (↑a0.length : Int) != (↑a1.length : Int) then some false else (l0.f K K a1 a0 (↑a0.length : Int) (0 : Int)).bind fun t => Sum.elim (fun t => some true) (fun t => some t) t
noncomputable def e (K : Nat) : En M := fnE (X K) 90 Tryz.func90 ⟨(.cons (.ty (.slice q2r)) (.cons (.ty (.slice q2r)) (.fn 91 .unit .unit))), [], (.ty .bool), []⟩ [l0.b K] (fun x => f K x.1.1 x.1.2.1) (fun x r => (r, ())) fun x => by
  rw [q0a, f]
  try simp only [el]
  kernel_rfl
end q0t
namespace q69
noncomputable def X (K : Nat) : Fx M 0 := { hmx := mxd, nt := 31, cs := [q0t.e K], cp := [(1, [.bool], [4])] }
noncomputable def f (K : Nat) (a0 : ByteArray) (a1 : Int) (a2 : Int) (a3 : List q1m) (a4 : ByteArray) (a5 : Int) (a6 : Int) (a7 : List q1m) : Option (Bool) := q1g (bif a0.toList == a4.toList then bif a1 == a5 then bif a2 == a6 then (q0t.f K a3 a7).bind fun t => some t else some false else some false else some false) fun t => some t
noncomputable def e (K : Nat) : En M := fnE (X K) 46 Tryz.func46 ⟨(.cons (.agg (.cons (.ty .str) (.cons (.ty yI) (.cons (.ty yI) (.ty (.slice q2r)))))) (.agg (.cons (.ty .str) (.cons (.ty yI) (.cons (.ty yI) (.ty (.slice q2r))))))), [], (.ty .bool), []⟩ [] (fun x => f K x.1.1.1 x.1.1.2.1 x.1.1.2.2.1 x.1.1.2.2.2 x.1.2.1 x.1.2.2.1 x.1.2.2.2.1 x.1.2.2.2.2) (fun x r => (r, ())) fun x => by
  rw [q0a, f]
  try simp only [el]
  kernel_rfl
end q69
namespace q0v
noncomputable def X (K : Nat) : Fx M 0 := { hmx := mxd, nt := 32, cs := [q69.e K] }
noncomputable def l0.f (K : Nat) : Nat → List q0x → List q0x → Int → Int → Option ((Unit) ⊕ (Bool))
  | 0, _, _, _, _ => none
  | k + 1, a0, a1, a2, a3 => bif decide (a3 < a2) then bif decide ((0 : Int) ≤ a3) && true then a1[a3.toNat]?.bind fun t => bif decide ((0 : Int) ≤ a3) && true then a0[a3.toNat]?.bind fun t_1 => (q69.f K t.1 t.2.1 t.2.2.1 t.2.2.2 t_1.1 t_1.2.1 t_1.2.2.1 t_1.2.2.2).bind fun t => bif !t then some (Sum.inr false) else l0.f K k a0 a1 a2 (IntKind.i64.wrap (a3 + (1 : Int))) else none else none else some (Sum.inl ())
noncomputable def l0.b (K : Nat) : Lp M 0 := q3s (X K) 4 32 0 (q01 Tryz.f45 0) ⟨[1, 2, 15, 16, 17], (.cons (.ty (.slice q3x)) (.cons (.fn 46 .unit .unit) (.cons (.ty (.slice q3x)) (.cons (.ty yI) (.ty yI))))), []⟩ ss18 ss4c K [] (fun k x => l0.f K k x.1.1 x.1.2.2.1 x.1.2.2.2.1 x.1.2.2.2.2) (fun x r => ((), ())) (fun x r => (r, ())) fun k x => by
  rw [q0a, l0.f]
  try simp only [el]
  kernel_rfl
noncomputable def f (K : Nat) (a0 : List q0x) (a1 : List q0x) : Option (Bool) := bif (↑a0.length : Int) != (↑a1.length : Int) then some false else (l0.f K K a1 a0 (↑a0.length : Int) (0 : Int)).bind fun t => Sum.elim (fun t => some true) (fun t => some t) t
noncomputable def e (K : Nat) : En M := fnE (X K) 45 Tryz.func45 ⟨(.cons (.ty (.slice q3x)) (.cons (.ty (.slice q3x)) (.fn 46 .unit .unit))), [], (.ty .bool), []⟩ [l0.b K] (fun x => f K x.1.1 x.1.2.1) (fun x r => (r, ())) fun x => by
  rw [q0a, f]
  try simp only [el]
  kernel_rfl
end q0v
namespace q9x
noncomputable def X (K : Nat) : Fx M 0 := { hmx := mxd, nt := 24, cs := [q12.e K, q1i.e K, q0v.e K], cp := [(1, [.bool], [4])] }
noncomputable def f (K : Nat) (a0 : List Int) (a1 : List q0x) (a2 : List q0g) (a3 : List Int) (a4 : List q0x) (a5 : List q0g) : Option (Bool) := q1g ((q12.f K a0 a3).bind fun t => bif t then (q1i.f K a2 a5).bind fun t => bif t then (q0v.f K a1 a4).bind fun t => some t else some false else some false) fun t => some t
noncomputable def e (K : Nat) : En M := fnE (X K) 11 Tryz.func11 ⟨(.cons (.agg (.cons (.ty (.slice yI)) (.cons (.ty (.slice q3x)) (.ty (.slice q2h))))) (.agg (.cons (.ty (.slice yI)) (.cons (.ty (.slice q3x)) (.ty (.slice q2h)))))), [], (.ty .bool), []⟩ [] (fun x => f K x.1.1.1 x.1.1.2.1 x.1.1.2.2 x.1.2.1 x.1.2.2.1 x.1.2.2.2) (fun x r => (r, ())) fun x => by
  rw [q0a, f]
  try simp only [el]
  kernel_rfl
end q9x
namespace q7h
noncomputable def f (K : Nat) (a0 : Int) (a1 : Bool) (a2 : Int) (a3 : Int) (a4 : Int) (a5 : Int) (a6 : Int) (a7 : Bool) (a8 : Int) (a9 : Int) (a10 : Int) (a11 : Int) : Option (Bool) := some (bif false then !(a0 == a6 && (a1 == a7 && a2 == a8 && (a3 == a9 && a4 == a10 && a5 == a11))) else a0 == a6 && (a1 == a7 && a2 == a8 && (a3 == a9 && a4 == a10 && a5 == a11)))
noncomputable def e (K : Nat) : En M := fnE (m := 0) { hmx := mxd, nt := 8, cs := [] } 47 Tryz.func47 ⟨(.cons (.agg (.cons (.ty yI) (.cons (.ty .bool) (.cons (.ty yI) (.cons (.ty yI) (.cons (.ty yI) (.ty yI))))))) (.agg (.cons (.ty yI) (.cons (.ty .bool) (.cons (.ty yI) (.cons (.ty yI) (.cons (.ty yI) (.ty yI)))))))), [], (.ty .bool), []⟩ [] (fun (x : (((Int × (Bool × (Int × (Int × (Int × Int))))) × (Int × (Bool × (Int × (Int × (Int × Int)))))) × Unit)) => f K x.1.1.1 x.1.1.2.1 x.1.1.2.2.1 x.1.1.2.2.2.1 x.1.1.2.2.2.2.1 x.1.1.2.2.2.2.2 x.1.2.1 x.1.2.2.1 x.1.2.2.2.1 x.1.2.2.2.2.1 x.1.2.2.2.2.2.1 x.1.2.2.2.2.2.2) (fun x r => (r, ())) fun (x : (((Int × (Bool × (Int × (Int × (Int × Int))))) × (Int × (Bool × (Int × (Int × (Int × Int)))))) × Unit)) => by
  refine Eq.trans ?_ q0a.symm
  rw [f]
  try simp only [el]
  kernel_rfl
end q7h
namespace q05
noncomputable def X (K : Nat) : Fx M 0 := { hmx := mxd, nt := 26, cs := [] }
noncomputable def l0.f (K : Nat) : Nat → List q0l → List q0l → Int → Int → Option ((Unit) ⊕ (Bool))
  | 0, _, _, _, _ => none
  | k + 1, a0, a1, a2, a3 => bif decide (a3 < a2) then bif decide ((0 : Int) ≤ a3) && true then a0[a3.toNat]?.bind fun t => bif decide ((0 : Int) ≤ a3) && true then a1[a3.toNat]?.bind fun t_1 => bif bif true then !(t.1 == t_1.1 && (t.2.1.1 == t_1.2.1.1 && t.2.1.2 == t_1.2.1.2 && (t.2.2.1.1 == t_1.2.2.1.1 && t.2.2.1.2 == t_1.2.2.1.2 && t.2.2.2 == t_1.2.2.2))) else t.1 == t_1.1 && (t.2.1.1 == t_1.2.1.1 && t.2.1.2 == t_1.2.1.2 && (t.2.2.1.1 == t_1.2.2.1.1 && t.2.2.1.2 == t_1.2.2.1.2 && t.2.2.2 == t_1.2.2.2)) then some (Sum.inr false) else l0.f K k a0 a1 a2 (IntKind.i64.wrap (a3 + (1 : Int))) else none else none else some (Sum.inl ())
noncomputable def l0.b (K : Nat) : Lp M 0 := q3s (X K) 4 26 0 (q01 Tryz.f49 0) ⟨[0, 1, 12, 13], (.cons (.ty (.slice q15)) (.cons (.ty (.slice q15)) (.cons (.ty yI) (.ty yI)))), []⟩ ss18 ss2b K [] (fun k x => l0.f K k x.1.1 x.1.2.1 x.1.2.2.1 x.1.2.2.2) (fun x r => ((), ())) (fun x r => (r, ())) fun k x => by
  rw [q0a, l0.f]
  try simp only [el]
  kernel_rfl
noncomputable def f (K : Nat) (a0 : List q0l) (a1 : List q0l) : Option (Bool) := bif (↑a0.length : Int) != (↑a1.length : Int) then some false else (l0.f K K a0 a1 (↑a0.length : Int) (0 : Int)).bind fun t => Sum.elim (fun t => some true) (fun t => some t) t
noncomputable def e (K : Nat) : En M := fnE (X K) 49 Tryz.func49 ⟨(.cons (.ty (.slice q15)) (.ty (.slice q15))), [], (.ty .bool), []⟩ [l0.b K] (fun x => f K x.1.1 x.1.2) (fun x r => (r, ())) fun x => by
  rw [q0a, f]
  try simp only [el]
  kernel_rfl
end q05
namespace q4d
noncomputable def X (K : Nat) : Fx M 0 := { hmx := mxd, nt := 31, cs := [q05.e K], cp := [(1, [.bool], [4])] }
noncomputable def f (K : Nat) (a0 : Bool) (a1 : List q0l) (a2 : Bool) (a3 : Int) (a4 : Bool) (a5 : Int) (a6 : Int) (a7 : Int) (a8 : Int) (a9 : Bool) (a10 : List q0l) (a11 : Bool) (a12 : Int) (a13 : Bool) (a14 : Int) (a15 : Int) (a16 : Int) (a17 : Int) : Option (Bool) := q1g (bif a0 == a9 then (q05.f K a1 a10).bind fun t => bif t then bif a2 == a11 then some (bif false then !(a3 == a12 && (a4 == a13 && a5 == a14 && (a6 == a15 && a7 == a16 && a8 == a17))) else a3 == a12 && (a4 == a13 && a5 == a14 && (a6 == a15 && a7 == a16 && a8 == a17))) else some false else some false else some false) fun t => some t
noncomputable def e (K : Nat) : En M := fnE (X K) 48 Tryz.func48 ⟨(.cons (.agg (.cons (.ty .bool) (.cons (.ty (.slice q15)) (.cons (.ty .bool) (.cons (.ty yI) (.cons (.ty .bool) (.cons (.ty yI) (.cons (.ty yI) (.cons (.ty yI) (.ty yI)))))))))) (.agg (.cons (.ty .bool) (.cons (.ty (.slice q15)) (.cons (.ty .bool) (.cons (.ty yI) (.cons (.ty .bool) (.cons (.ty yI) (.cons (.ty yI) (.cons (.ty yI) (.ty yI))))))))))), [], (.ty .bool), []⟩ [] (fun (x : (((Bool × ((List q0l) × (Bool × (Int × (Bool × (Int × (Int × (Int × Int)))))))) × (Bool × ((List q0l) × (Bool × (Int × (Bool × (Int × (Int × (Int × Int))))))))) × Unit)) => f K x.1.1.1 x.1.1.2.1 x.1.1.2.2.1 x.1.1.2.2.2.1 x.1.1.2.2.2.2.1 x.1.1.2.2.2.2.2.1 x.1.1.2.2.2.2.2.2.1 x.1.1.2.2.2.2.2.2.2.1 x.1.1.2.2.2.2.2.2.2.2 x.1.2.1 x.1.2.2.1 x.1.2.2.2.1 x.1.2.2.2.2.1 x.1.2.2.2.2.2.1 x.1.2.2.2.2.2.2.1 x.1.2.2.2.2.2.2.2.1 x.1.2.2.2.2.2.2.2.2.1 x.1.2.2.2.2.2.2.2.2.2) (fun x r => (r, ())) fun (x : (((Bool × ((List q0l) × (Bool × (Int × (Bool × (Int × (Int × (Int × Int)))))))) × (Bool × ((List q0l) × (Bool × (Int × (Bool × (Int × (Int × (Int × Int))))))))) × Unit)) => by
  refine Eq.trans ?_ q0a.symm
  rw [f]
  try simp only [el]
  kernel_rfl
end q4d
namespace q7t
noncomputable def f (K : Nat) (a0 : List Int) (a1 : List Int) : Option (Bool) := q14.f K a0 a1
noncomputable def e (K : Nat) : En M := fnE (m := 0) { hmx := mxd, nt := 8, cs := [q14.e K] } 51 Tryz.func51 ⟨sh55, [], (.ty .bool), []⟩ [] (fun x => f K x.1.1 x.1.2) (fun x r => (r, ())) fun x => by
  rw [q0a, f]
  try simp only [el]
  kernel_rfl
end q7t
namespace q1h
noncomputable def X (K : Nat) : Fx M 0 := { hmx := mxd, nt := 32, cs := [q7t.e K] }
noncomputable def l0.f (K : Nat) : Nat → List (List Int) → List (List Int) → Int → Int → Option ((Unit) ⊕ (Bool))
  | 0, _, _, _, _ => none
  | k + 1, a0, a1, a2, a3 => bif decide (a3 < a2) then bif decide ((0 : Int) ≤ a3) && true then a1[a3.toNat]?.bind fun t => bif decide ((0 : Int) ≤ a3) && true then a0[a3.toNat]?.bind fun t_1 => (q7t.f K t t_1).bind fun t => bif !t then some (Sum.inr false) else l0.f K k a0 a1 a2 (IntKind.i64.wrap (a3 + (1 : Int))) else none else none else some (Sum.inl ())
noncomputable def l0.b (K : Nat) : Lp M 0 := q3s (X K) 4 32 0 (q01 Tryz.f92 0) ⟨[1, 2, 15, 16, 17], (.cons (.ty (.slice (.slice yI))) (.cons (.fn 51 .unit .unit) (.cons (.ty (.slice (.slice yI))) (.cons (.ty yI) (.ty yI))))), []⟩ ss18 ss4c K [] (fun k x => l0.f K k x.1.1 x.1.2.2.1 x.1.2.2.2.1 x.1.2.2.2.2) (fun x r => ((), ())) (fun x r => (r, ())) fun k x => by
  rw [q0a, l0.f]
  try simp only [el]
  kernel_rfl
noncomputable def f (K : Nat) (a0 : List (List Int)) (a1 : List (List Int)) : Option (Bool) := bif (↑a0.length : Int) != (↑a1.length : Int) then some false else (l0.f K K a1 a0 (↑a0.length : Int) (0 : Int)).bind fun t => Sum.elim (fun t => some true) (fun t => some t) t
noncomputable def e (K : Nat) : En M := fnE (X K) 92 Tryz.func92 ⟨(.cons (.ty (.slice (.slice yI))) (.cons (.ty (.slice (.slice yI))) (.fn 51 .unit .unit))), [], (.ty .bool), []⟩ [l0.b K] (fun x => f K x.1.1 x.1.2.1) (fun x r => (r, ())) fun x => by
  rw [q0a, f]
  try simp only [el]
  kernel_rfl
end q1h
namespace q8q
noncomputable def X (K : Nat) : Fx M 0 := { hmx := mxd, nt := 24, cs := [q05.e K, q1h.e K], cp := [(1, [.bool], [4])] }
noncomputable def f (K : Nat) (a0 : Bool) (a1 : List q0l) (a2 : List (List Int)) (a3 : Bool) (a4 : List q0l) (a5 : List (List Int)) : Option (Bool) := q1g (bif a0 == a3 then (q05.f K a1 a4).bind fun t => bif t then (q1h.f K a2 a5).bind fun t => some t else some false else some false) fun t => some t
noncomputable def e (K : Nat) : En M := fnE (X K) 50 Tryz.func50 ⟨(.cons (.agg (.cons (.ty .bool) (.cons (.ty (.slice q15)) (.ty (.slice (.slice yI)))))) (.agg (.cons (.ty .bool) (.cons (.ty (.slice q15)) (.ty (.slice (.slice yI))))))), [], (.ty .bool), []⟩ [] (fun (x : (((Bool × ((List q0l) × (List (List Int)))) × (Bool × ((List q0l) × (List (List Int))))) × Unit)) => f K x.1.1.1 x.1.1.2.1 x.1.1.2.2 x.1.2.1 x.1.2.2.1 x.1.2.2.2) (fun x r => (r, ())) fun (x : (((Bool × ((List q0l) × (List (List Int)))) × (Bool × ((List q0l) × (List (List Int))))) × Unit)) => by
  refine Eq.trans ?_ q0a.symm
  rw [f]
  try simp only [el]
  kernel_rfl
end q8q
namespace q0o
noncomputable def X (K : Nat) : Fx M 0 := { hmx := mxd, nt := 32, cs := [q7h.e K] }
noncomputable def l0.f (K : Nat) : Nat → List q0l → List q0l → Int → Int → Option ((Unit) ⊕ (Bool))
  | 0, _, _, _, _ => none
  | k + 1, a0, a1, a2, a3 => bif decide (a3 < a2) then bif decide ((0 : Int) ≤ a3) && true then a1[a3.toNat]?.bind fun t => bif decide ((0 : Int) ≤ a3) && true then a0[a3.toNat]?.bind fun t_1 => (q7h.f K t.1 t.2.1.1 t.2.1.2 t.2.2.1.1 t.2.2.1.2 t.2.2.2 t_1.1 t_1.2.1.1 t_1.2.1.2 t_1.2.2.1.1 t_1.2.2.1.2 t_1.2.2.2).bind fun t => bif !t then some (Sum.inr false) else l0.f K k a0 a1 a2 (IntKind.i64.wrap (a3 + (1 : Int))) else none else none else some (Sum.inl ())
noncomputable def l0.b (K : Nat) : Lp M 0 := q3s (X K) 4 32 0 (q01 Tryz.f94 0) ⟨[1, 2, 15, 16, 17], (.cons (.ty (.slice q15)) (.cons (.fn 47 .unit .unit) (.cons (.ty (.slice q15)) (.cons (.ty yI) (.ty yI))))), []⟩ ss18 ss4c K [] (fun k x => l0.f K k x.1.1 x.1.2.2.1 x.1.2.2.2.1 x.1.2.2.2.2) (fun x r => ((), ())) (fun x r => (r, ())) fun k x => by
  rw [q0a, l0.f]
  try simp only [el]
  kernel_rfl
noncomputable def f (K : Nat) (a0 : List q0l) (a1 : List q0l) : Option (Bool) := bif (↑a0.length : Int) != (↑a1.length : Int) then some false else (l0.f K K a1 a0 (↑a0.length : Int) (0 : Int)).bind fun t => Sum.elim (fun t => some true) (fun t => some t) t
noncomputable def e (K : Nat) : En M := fnE (X K) 94 Tryz.func94 ⟨(.cons (.ty (.slice q15)) (.cons (.ty (.slice q15)) (.fn 47 .unit .unit))), [], (.ty .bool), []⟩ [l0.b K] (fun x => f K x.1.1 x.1.2.1) (fun x r => (r, ())) fun x => by
  rw [q0a, f]
  try simp only [el]
  kernel_rfl
end q0o
namespace q3w
noncomputable def X (K : Nat) : Fx M 0 := { hmx := mxd, nt := 23, cs := [q8q.e K, q7t.e K], cp := [(1, [.bool], [6])] }
noncomputable def f (K : Nat) (a0 : Bool) (a1 : List q0l) (a2 : List (List Int)) (a3 : List Int) (a4 : Bool) (a5 : List q0l) (a6 : List (List Int)) (a7 : List Int) : Option (Bool) := q1g ((q8q.f K a0 a1 a2 a4 a5 a6).bind fun t => bif t then (q7t.f K a3 a7).bind fun t => some t else some false) fun t => some t
noncomputable def e (K : Nat) : En M := fnE (X K) 157 Tryz.func157 ⟨(.cons (.agg (.cons (.fn 47 .unit .unit) (.cons (.fn 48 .unit .unit) (.cons (.fn 50 .unit .unit) (.fn 51 .unit .unit))))) (.cons (.agg (.cons (.ty .bool) (.cons (.ty (.slice q15)) (.cons (.ty (.slice (.slice yI))) (.ty (.slice yI)))))) (.agg (.cons (.ty .bool) (.cons (.ty (.slice q15)) (.cons (.ty (.slice (.slice yI))) (.ty (.slice yI)))))))), [], (.ty .bool), []⟩ [] (fun (x : ((((Unit × Unit) × ((Unit × Unit) × ((Unit × Unit) × (Unit × Unit)))) × ((Bool × ((List q0l) × ((List (List Int)) × (List Int)))) × (Bool × ((List q0l) × ((List (List Int)) × (List Int)))))) × Unit)) => f K x.1.2.1.1 x.1.2.1.2.1 x.1.2.1.2.2.1 x.1.2.1.2.2.2 x.1.2.2.1 x.1.2.2.2.1 x.1.2.2.2.2.1 x.1.2.2.2.2.2) (fun x r => (r, ())) fun (x : ((((Unit × Unit) × ((Unit × Unit) × ((Unit × Unit) × (Unit × Unit)))) × ((Bool × ((List q0l) × ((List (List Int)) × (List Int)))) × (Bool × ((List q0l) × ((List (List Int)) × (List Int)))))) × Unit)) => by
  refine Eq.trans ?_ q0a.symm
  rw [f]
  try simp only [el]
  kernel_rfl
end q3w
namespace q0k
noncomputable def X (K : Nat) : Fx M 0 := { hmx := mxd, nt := 32, cs := [q3w.e K] }
noncomputable def l0.f (K : Nat) : Nat → List q1l → List q1l → Int → Int → Option ((Unit) ⊕ (Bool))
  | 0, _, _, _, _ => none
  | k + 1, a0, a1, a2, a3 => bif decide (a3 < a2) then bif decide ((0 : Int) ≤ a3) && true then a1[a3.toNat]?.bind fun t => bif decide ((0 : Int) ≤ a3) && true then a0[a3.toNat]?.bind fun t_1 => (q3w.f K t.1.1 t.1.2.1 t.1.2.2 t.2 t_1.1.1 t_1.1.2.1 t_1.1.2.2 t_1.2).bind fun t => bif !t then some (Sum.inr false) else l0.f K k a0 a1 a2 (IntKind.i64.wrap (a3 + (1 : Int))) else none else none else some (Sum.inl ())
noncomputable def l0.b (K : Nat) : Lp M 0 := q3s (X K) 4 32 0 (q01 Tryz.f156 0) ⟨[1, 2, 15, 16, 17], (.cons (.ty (.slice q3e)) (.cons (.fn 157 (.agg (.cons (.fn 47 .unit .unit) (.cons (.fn 48 .unit .unit) (.cons (.fn 50 .unit .unit) (.fn 51 .unit .unit))))) .unit) (.cons (.ty (.slice q3e)) (.cons (.ty yI) (.ty yI))))), []⟩ ss18 ss4c K [] (fun k x => l0.f K k x.1.1 x.1.2.2.1 x.1.2.2.2.1 x.1.2.2.2.2) (fun x r => ((), ())) (fun x r => (r, ())) fun k x => by
  rw [q0a, l0.f]
  try simp only [el]
  kernel_rfl
noncomputable def f (K : Nat) (a0 : List q1l) (a1 : List q1l) : Option (Bool) := bif (↑a0.length : Int) != (↑a1.length : Int) then some false else (l0.f K K a1 a0 (↑a0.length : Int) (0 : Int)).bind fun t => Sum.elim (fun t => some true) (fun t => some t) t
noncomputable def e (K : Nat) : En M := fnE (X K) 156 Tryz.func156 ⟨(.cons (.ty (.slice q3e)) (.cons (.ty (.slice q3e)) (.fn 157 (.agg (.cons (.fn 47 .unit .unit) (.cons (.fn 48 .unit .unit) (.cons (.fn 50 .unit .unit) (.fn 51 .unit .unit))))) .unit))), [], (.ty .bool), []⟩ [l0.b K] (fun x => f K x.1.1 x.1.2.1) (fun x r => (r, ())) fun x => by
  rw [q0a, f]
  try simp only [el]
  kernel_rfl
end q0k
namespace q3d
noncomputable def X (K : Nat) : Fx M 0 := { hmx := mxd, nt := 23, cs := [q4d.e K, q0k.e K], cp := [(1, [.bool], [6])] }
noncomputable def f (K : Nat) (a0 : Bool) (a1 : List q0l) (a2 : Bool) (a3 : Int) (a4 : Bool) (a5 : Int) (a6 : Int) (a7 : Int) (a8 : Int) (a9 : List q1l) (a10 : Bool) (a11 : List q0l) (a12 : Bool) (a13 : Int) (a14 : Bool) (a15 : Int) (a16 : Int) (a17 : Int) (a18 : Int) (a19 : List q1l) : Option (Bool) := q1g ((q4d.f K a0 a1 a2 a3 a4 a5 a6 a7 a8 a10 a11 a12 a13 a14 a15 a16 a17 a18).bind fun t => bif t then (q0k.f K a9 a19).bind fun t => some t else some false) fun t => some t
noncomputable def e (K : Nat) : En M := fnE (X K) 96 Tryz.func96 ⟨(.cons (.agg (.cons (.fn 47 .unit .unit) (.cons (.fn 48 .unit .unit) (.cons (.fn 50 .unit .unit) (.fn 51 .unit .unit))))) (.cons (.agg (.cons (.ty .bool) (.cons (.ty (.slice q15)) (.cons (.ty .bool) (.cons (.ty yI) (.cons (.ty .bool) (.cons (.ty yI) (.cons (.ty yI) (.cons (.ty yI) (.cons (.ty yI) (.ty (.slice q3e)))))))))))) (.agg (.cons (.ty .bool) (.cons (.ty (.slice q15)) (.cons (.ty .bool) (.cons (.ty yI) (.cons (.ty .bool) (.cons (.ty yI) (.cons (.ty yI) (.cons (.ty yI) (.cons (.ty yI) (.ty (.slice q3e)))))))))))))), [], (.ty .bool), []⟩ [] (fun (x : ((((Unit × Unit) × ((Unit × Unit) × ((Unit × Unit) × (Unit × Unit)))) × ((Bool × ((List q0l) × (Bool × (Int × (Bool × (Int × (Int × (Int × (Int × (List q1l)))))))))) × (Bool × ((List q0l) × (Bool × (Int × (Bool × (Int × (Int × (Int × (Int × (List q1l)))))))))))) × Unit)) => f K x.1.2.1.1 x.1.2.1.2.1 x.1.2.1.2.2.1 x.1.2.1.2.2.2.1 x.1.2.1.2.2.2.2.1 x.1.2.1.2.2.2.2.2.1 x.1.2.1.2.2.2.2.2.2.1 x.1.2.1.2.2.2.2.2.2.2.1 x.1.2.1.2.2.2.2.2.2.2.2.1 x.1.2.1.2.2.2.2.2.2.2.2.2 x.1.2.2.1 x.1.2.2.2.1 x.1.2.2.2.2.1 x.1.2.2.2.2.2.1 x.1.2.2.2.2.2.2.1 x.1.2.2.2.2.2.2.2.1 x.1.2.2.2.2.2.2.2.2.1 x.1.2.2.2.2.2.2.2.2.2.1 x.1.2.2.2.2.2.2.2.2.2.2.1 x.1.2.2.2.2.2.2.2.2.2.2.2) (fun x r => (r, ())) fun (x : ((((Unit × Unit) × ((Unit × Unit) × ((Unit × Unit) × (Unit × Unit)))) × ((Bool × ((List q0l) × (Bool × (Int × (Bool × (Int × (Int × (Int × (Int × (List q1l)))))))))) × (Bool × ((List q0l) × (Bool × (Int × (Bool × (Int × (Int × (Int × (Int × (List q1l)))))))))))) × Unit)) => by
  refine Eq.trans ?_ q0a.symm
  rw [f]
  try simp only [el]
  kernel_rfl
end q3d
namespace q0p
noncomputable def X (K : Nat) : Fx M 0 := { hmx := mxd, nt := 32, cs := [q3d.e K] }
noncomputable def l0.f (K : Nat) : Nat → List q06 → List q06 → Int → Int → Option ((Unit) ⊕ (Bool))
  | 0, _, _, _, _ => none
  | k + 1, a0, a1, a2, a3 => bif decide (a3 < a2) then bif decide ((0 : Int) ≤ a3) && true then a1[a3.toNat]?.bind fun t => bif decide ((0 : Int) ≤ a3) && true then a0[a3.toNat]?.bind fun t_1 => (q3d.f K t.1.1 t.1.2.1 t.1.2.2.1 t.1.2.2.2.1 t.1.2.2.2.2.1.1 t.1.2.2.2.2.1.2 t.1.2.2.2.2.2.1.1 t.1.2.2.2.2.2.1.2 t.1.2.2.2.2.2.2 t.2 t_1.1.1 t_1.1.2.1 t_1.1.2.2.1 t_1.1.2.2.2.1 t_1.1.2.2.2.2.1.1 t_1.1.2.2.2.2.1.2 t_1.1.2.2.2.2.2.1.1 t_1.1.2.2.2.2.2.1.2 t_1.1.2.2.2.2.2.2 t_1.2).bind fun t => bif !t then some (Sum.inr false) else l0.f K k a0 a1 a2 (IntKind.i64.wrap (a3 + (1 : Int))) else none else none else some (Sum.inl ())
noncomputable def l0.b (K : Nat) : Lp M 0 := q3s (X K) 4 32 0 (q01 Tryz.f95 0) ⟨[1, 2, 15, 16, 17], (.cons (.ty (.slice q4c)) (.cons (.fn 96 (.agg (.cons (.fn 47 .unit .unit) (.cons (.fn 48 .unit .unit) (.cons (.fn 50 .unit .unit) (.fn 51 .unit .unit))))) .unit) (.cons (.ty (.slice q4c)) (.cons (.ty yI) (.ty yI))))), []⟩ ss18 ss4c K [] (fun k x => l0.f K k x.1.1 x.1.2.2.1 x.1.2.2.2.1 x.1.2.2.2.2) (fun x r => ((), ())) (fun x r => (r, ())) fun k x => by
  rw [q0a, l0.f]
  try simp only [el]
  kernel_rfl
noncomputable def f (K : Nat) (a0 : List q06) (a1 : List q06) : Option (Bool) := bif (↑a0.length : Int) != (↑a1.length : Int) then some false else (l0.f K K a1 a0 (↑a0.length : Int) (0 : Int)).bind fun t => Sum.elim (fun t => some true) (fun t => some t) t
noncomputable def e (K : Nat) : En M := fnE (X K) 95 Tryz.func95 ⟨(.cons (.ty (.slice q4c)) (.cons (.ty (.slice q4c)) (.fn 96 (.agg (.cons (.fn 47 .unit .unit) (.cons (.fn 48 .unit .unit) (.cons (.fn 50 .unit .unit) (.fn 51 .unit .unit))))) .unit))), [], (.ty .bool), []⟩ [l0.b K] (fun x => f K x.1.1 x.1.2.1) (fun x r => (r, ())) fun x => by
  rw [q0a, f]
  try simp only [el]
  kernel_rfl
end q0p
namespace q0s
noncomputable def X (K : Nat) : Fx M 0 := { hmx := mxd, nt := 32, cs := [q4d.e K] }
noncomputable def l0.f (K : Nat) : Nat → List LSum → List LSum → Int → Int → Option ((Unit) ⊕ (Bool))
  | 0, _, _, _, _ => none
  | k + 1, a0, a1, a2, a3 => bif decide (a3 < a2) then bif decide ((0 : Int) ≤ a3) && true then a1[a3.toNat]?.bind fun t => bif decide ((0 : Int) ≤ a3) && true then a0[a3.toNat]?.bind fun t_1 => (q4d.f K t.1 t.2.1 t.2.2.1 t.2.2.2.1 t.2.2.2.2.1.1 t.2.2.2.2.1.2 t.2.2.2.2.2.1.1 t.2.2.2.2.2.1.2 t.2.2.2.2.2.2 t_1.1 t_1.2.1 t_1.2.2.1 t_1.2.2.2.1 t_1.2.2.2.2.1.1 t_1.2.2.2.2.1.2 t_1.2.2.2.2.2.1.1 t_1.2.2.2.2.2.1.2 t_1.2.2.2.2.2.2).bind fun t => bif !t then some (Sum.inr false) else l0.f K k a0 a1 a2 (IntKind.i64.wrap (a3 + (1 : Int))) else none else none else some (Sum.inl ())
noncomputable def l0.b (K : Nat) : Lp M 0 := q3s (X K) 4 32 0 (q01 Tryz.f97 0) ⟨[1, 2, 15, 16, 17], (.cons (.ty (.slice ySum)) (.cons (.fn 48 .unit .unit) (.cons (.ty (.slice ySum)) (.cons (.ty yI) (.ty yI))))), []⟩ ss18 ss4c K [] (fun k x => l0.f K k x.1.1 x.1.2.2.1 x.1.2.2.2.1 x.1.2.2.2.2) (fun x r => ((), ())) (fun x r => (r, ())) fun k x => by
  rw [q0a, l0.f]
  try simp only [el]
  kernel_rfl
noncomputable def f (K : Nat) (a0 : List LSum) (a1 : List LSum) : Option (Bool) := bif (↑a0.length : Int) != (↑a1.length : Int) then some false else (l0.f K K a1 a0 (↑a0.length : Int) (0 : Int)).bind fun t => Sum.elim (fun t => some true) (fun t => some t) t
noncomputable def e (K : Nat) : En M := fnE (X K) 97 Tryz.func97 ⟨(.cons (.ty (.slice ySum)) (.cons (.ty (.slice ySum)) (.fn 48 .unit .unit))), [], (.ty .bool), []⟩ [l0.b K] (fun x => f K x.1.1 x.1.2.1) (fun x r => (r, ())) fun x => by
  rw [q0a, f]
  try simp only [el]
  kernel_rfl
end q0s
namespace q4t
noncomputable def X (K : Nat) : Fx M 0 := { hmx := mxd, nt := 32, cs := [q0o.e K, q0p.e K, q0s.e K], cp := [(1, [.bool], [6])] }
noncomputable def f (K : Nat) (a0 : List q0l) (a1 : List q06) (a2 : List LSum) (a3 : List q0l) (a4 : List q06) (a5 : List LSum) : Option (Bool) := q1g ((q0o.f K a0 a3).bind fun t => bif t then (q0p.f K a1 a4).bind fun t => bif t then (q0s.f K a2 a5).bind fun t => some t else some false else some false) fun t => some t
noncomputable def e (K : Nat) : En M := fnE (X K) 52 Tryz.func52 ⟨(.cons (.agg (.cons (.fn 47 .unit .unit) (.cons (.fn 48 .unit .unit) (.cons (.fn 50 .unit .unit) (.fn 51 .unit .unit))))) (.cons (.agg (.cons (.ty (.slice q15)) (.cons (.ty (.slice q4c)) (.ty (.slice ySum))))) (.agg (.cons (.ty (.slice q15)) (.cons (.ty (.slice q4c)) (.ty (.slice ySum))))))), [], (.ty .bool), []⟩ [] (fun x => f K x.1.2.1.1 x.1.2.1.2.1 x.1.2.1.2.2 x.1.2.2.1 x.1.2.2.2.1 x.1.2.2.2.2) (fun x r => (r, ())) fun x => by
  rw [q0a, f]
  try simp only [el]
  kernel_rfl
end q4t
namespace q6l
noncomputable def f (K : Nat) (a0 : List q0l) (a1 : List q06) (a2 : List LSum) (a3 : List q0l) (a4 : List q06) (a5 : List LSum) : Option (Bool) := q4t.f K a0 a1 a2 a3 a4 a5
noncomputable def e (K : Nat) : En M := fnE (m := 0) { hmx := mxd, nt := 13, cs := [q4t.e K] } 12 Tryz.func12 ⟨(.cons (.agg (.cons (.ty (.slice q15)) (.cons (.ty (.slice q4c)) (.ty (.slice ySum))))) (.agg (.cons (.ty (.slice q15)) (.cons (.ty (.slice q4c)) (.ty (.slice ySum)))))), [], (.ty .bool), []⟩ [] (fun x => f K x.1.1.1 x.1.1.2.1 x.1.1.2.2 x.1.2.1 x.1.2.2.1 x.1.2.2.2) (fun x r => (r, ())) fun x => by
  rw [q0a, f]
  try simp only [el]
  kernel_rfl
end q6l
namespace q2p
noncomputable def X (K : Nat) : Fx M 0 := { hmx := mxd, nt := 84, cs := [q22.e K, q4i.e K, q1v.e K, q9x.e K, q6l.e K], cp := [(8, [.bool], [58]), (10, [.bool], [64]), (12, [.bool], [4])] }
noncomputable def f (K : Nat) (a0 : List Int) (a1 : List Int) : Option (Bool) := bif decide ((↑(0 : Nat) : Int) ≤ if (6000 : Int) < (↑a0.length : Int) then (6000 : Int) else (↑a0.length : Int)) && decide ((if (6000 : Int) < (↑a0.length : Int) then (6000 : Int) else (↑a0.length : Int)) ≤ (↑a0.length : Int)) && true then bif decide ((↑(0 : Nat) : Int) ≤ if (6000 : Int) < (↑a1.length : Int) then (6000 : Int) else (↑a1.length : Int)) && decide ((if (6000 : Int) < (↑a1.length : Int) then (6000 : Int) else (↑a1.length : Int)) ≤ (↑a1.length : Int)) && true then (q22.f K (List.drop (0 : Nat) (List.take (if (6000 : Int) < (↑a0.length : Int) then (6000 : Int) else (↑a0.length : Int)).toNat a0))).bind fun t => (q22.f K (List.drop (0 : Nat) (List.take (if (6000 : Int) < (↑a1.length : Int) then (6000 : Int) else (↑a1.length : Int)).toNat a1))).bind fun t_1 => (q4i.f K).bind fun t_2 => bif !t_2 then some false else bif bif false then !t.2.2.2.2.2.2.2.isNil else t.2.2.2.2.2.2.2.isNil then (q1v.f K t.1 t.2.1 t.2.2.1 t.2.2.2.1 t.2.2.2.2.1 t.2.2.2.2.2.1 t.2.2.2.2.2.2.1).bind fun t_3 => q1g (bif bif true then !t_3.2.isNil else t_3.2.isNil then some true else some !(strOf t_3.1).toList == (strOf (List.drop (0 : Nat) (List.take (if (6000 : Int) < (↑a0.length : Int) then (6000 : Int) else (↑a0.length : Int)).toNat a0))).toList) fun t_4 => bif t_4 then some false else q1g (bif bif true then !t.2.2.2.2.2.2.2.isNil else t.2.2.2.2.2.2.2.isNil then some true else some (bif true then !t_1.2.2.2.2.2.2.2.isNil else t_1.2.2.2.2.2.2.2.isNil)) fun t_5 => bif t_5 then some true else q1g (bif t.2.2.2.2.2.2.1 == t_1.2.2.2.2.2.2.1 then (q9x.f K t.1 t.2.1 t.2.2.1 t_1.1 t_1.2.1 t_1.2.2.1).bind fun t_6 => bif t_6 then (q6l.f K t.2.2.2.1 t.2.2.2.2.1 t.2.2.2.2.2.1 t_1.2.2.2.1 t_1.2.2.2.2.1 t_1.2.2.2.2.2.1).bind fun t => some (((strOf (List.drop (0 : Nat) (List.take (if (6000 : Int) < (↑a0.length : Int) then (6000 : Int) else (↑a0.length : Int)).toNat a0))).toList == (strOf (List.drop (0 : Nat) (List.take (if (6000 : Int) < (↑a1.length : Int) then (6000 : Int) else (↑a1.length : Int)).toNat a1))).toList) == t) else some (((strOf (List.drop (0 : Nat) (List.take (if (6000 : Int) < (↑a0.length : Int) then (6000 : Int) else (↑a0.length : Int)).toNat a0))).toList == (strOf (List.drop (0 : Nat) (List.take (if (6000 : Int) < (↑a1.length : Int) then (6000 : Int) else (↑a1.length : Int)).toNat a1))).toList) == false) else some (((strOf (List.drop (0 : Nat) (List.take (if (6000 : Int) < (↑a0.length : Int) then (6000 : Int) else (↑a0.length : Int)).toNat a0))).toList == (strOf (List.drop (0 : Nat) (List.take (if (6000 : Int) < (↑a1.length : Int) then (6000 : Int) else (↑a1.length : Int)).toNat a1))).toList) == false)) fun t => some t else q1g (bif bif true then !t.2.2.2.2.2.2.2.isNil else t.2.2.2.2.2.2.2.isNil then some true else some (bif true then !t_1.2.2.2.2.2.2.2.isNil else t_1.2.2.2.2.2.2.2.isNil)) fun t_3 => bif t_3 then some true else q1g (bif t.2.2.2.2.2.2.1 == t_1.2.2.2.2.2.2.1 then (q9x.f K t.1 t.2.1 t.2.2.1 t_1.1 t_1.2.1 t_1.2.2.1).bind fun t_4 => bif t_4 then (q6l.f K t.2.2.2.1 t.2.2.2.2.1 t.2.2.2.2.2.1 t_1.2.2.2.1 t_1.2.2.2.2.1 t_1.2.2.2.2.2.1).bind fun t => some (((strOf (List.drop (0 : Nat) (List.take (if (6000 : Int) < (↑a0.length : Int) then (6000 : Int) else (↑a0.length : Int)).toNat a0))).toList == (strOf (List.drop (0 : Nat) (List.take (if (6000 : Int) < (↑a1.length : Int) then (6000 : Int) else (↑a1.length : Int)).toNat a1))).toList) == t) else some (((strOf (List.drop (0 : Nat) (List.take (if (6000 : Int) < (↑a0.length : Int) then (6000 : Int) else (↑a0.length : Int)).toNat a0))).toList == (strOf (List.drop (0 : Nat) (List.take (if (6000 : Int) < (↑a1.length : Int) then (6000 : Int) else (↑a1.length : Int)).toNat a1))).toList) == false) else some (((strOf (List.drop (0 : Nat) (List.take (if (6000 : Int) < (↑a0.length : Int) then (6000 : Int) else (↑a0.length : Int)).toNat a0))).toList == (strOf (List.drop (0 : Nat) (List.take (if (6000 : Int) < (↑a1.length : Int) then (6000 : Int) else (↑a1.length : Int)).toNat a1))).toList) == false)) fun t => some t else none else none
noncomputable def e (K : Nat) : En M := fnE (X K) 4 Tryz.func4 ⟨sh2f, [], (.ty .bool), []⟩ [] (fun x => f K x.1.1 x.1.2) (fun x r => (r, ())) fun x => by
  rw [q0a, f]
  try simp only [el]
  kernel_rfl
end q2p
end
end Go.Proofs.YtdjkdmjdcdljmaaGreatDoor.AU
namespace Go.Proofs.YtdjkdmjdcdljmaaGreatDoorY.Runs
def q2y (n : Int) (s : List Int) : Prop := s.Pairwise (· < ·) ∧ ∀ x ∈ s, 0 ≤ x ∧ x < n
def q5w : List (Int × Int) → Int → List (Int × Int)
  | [], x => [(x, 1)]
  | [p], x => if p.1 + p.2 = x then [(p.1, p.2 + 1)] else [p, (x, 1)]
  | p :: q :: r, x => p :: q5w (q :: r) x
def expand (p : Int × Int) : List Int := (List.range p.2.toNat).map fun (i : Nat) => p.1 + (i : Int)
def sepR : Int → List (Int × Int) → Prop
  | _, [] => True
  | nx, p :: r => nx ≤ p.1 ∧ 1 ≤ p.2 ∧ sepR (p.1 + p.2 + 1) r
theorem z6w : ∀ {R : List (Int × Int)} {nx : Int} {p : Int × Int}, sepR nx R → R.getLast? = some p → nx ≤ p.1 ∧ 1 ≤ p.2
  | [], _, _, _, h => by simp at h
  | [q], nx, p, hs, h => by
    simp at h
    subst h
    exact ⟨hs.1, hs.2.1⟩
  | q :: q' :: r, nx, p, hs, h => by
    have h' : (q' :: r).getLast? = some p := by simpa using h
    have := z6w (R := q' :: r) hs.2.2 h'
    exact ⟨by have := hs.1; have := hs.2.1; omega, this.2⟩
theorem z54 : ∀ {R : List (Int × Int)} {nx x : Int}, sepR nx R → nx ≤ x → (∀ p, R.getLast? = some p → p.1 + p.2 ≤ x) → sepR nx (q5w R x)
  | [], nx, x, hs, hx, hl => ⟨hx, by simp, trivial⟩
  | [p], nx, x, hs, hx, hl => by
    have h1 := hl p (by simp)
    unfold q5w
    split
    · exact ⟨hs.1, by have := hs.2.1; simp only; omega, trivial⟩
    · exact ⟨hs.1, hs.2.1, by omega, by simp, trivial⟩
  | p :: q :: r, nx, x, hs, hx, hl => by
    refine ⟨hs.1, hs.2.1, z54 (R := q :: r) hs.2.2 ?_ fun y hy => hl y (by simpa using hy)⟩
    obtain ⟨y, hy⟩ : ∃ y, (q :: r).getLast? = some y := ⟨_, List.getLast?_eq_some_getLast (by simp)⟩
    have h1 := z6w hs.2.2 hy
    have h2 := hl y (by simpa using hy)
    omega
theorem j0x {p : Int × Int} (h : 0 ≤ p.2) : expand (p.1, p.2 + 1) = expand p ++ [p.1 + p.2] := by
  unfold expand
  have e : (p.2 + 1).toNat = p.2.toNat + 1 := by omega
  simp only [e, List.range_succ, List.map_append, List.map_cons, List.map_nil]
  rw [Int.toNat_of_nonneg h]
theorem z50 (x : Int) : expand (x, 1) = [x] := by simp [expand]
theorem z3p : ∀ {R : List (Int × Int)} {nx : Int} (x : Int), sepR nx R → (q5w R x).flatMap expand = R.flatMap expand ++ [x]
  | [], nx, x, hs => by simp [q5w, z50]
  | [p], nx, x, hs => by
    unfold q5w
    split
    · rename_i h
      have := hs.2.1
      simp only [List.flatMap_cons, List.flatMap_nil, List.append_nil, j0x (p := p) (by omega), h]
    · simp [z50]
  | p :: q :: r, nx, x, hs => by
    show (p :: q5w (q :: r) x).flatMap expand = _
    rw [List.flatMap_cons, z3p (R := q :: r) x hs.2.2]
    simp
theorem z4f {p : Int × Int} (h : 1 ≤ p.2) : p.1 + p.2 - 1 ∈ expand p := by
  unfold expand
  rw [List.mem_map]
  exact ⟨p.2.toNat - 1, by simp; omega, by omega⟩
theorem j2z {n : Int} : ∀ (s2 s1 : List Int) (R : List (Int × Int)), q2y n (s1 ++ s2) → sepR 0 R → R.flatMap expand = s1 → sepR 0 (s2.foldl q5w R) ∧ (s2.foldl q5w R).flatMap expand = s1 ++ s2
  | [], s1, R, h, hs, hf => ⟨hs, by simpa using hf⟩
  | x :: s2, s1, R, h, hs, hf => by
    have hx := h.2 x (by simp)
    have hp := (List.pairwise_append.1 h.1).2.2
    have h1 : sepR 0 (q5w R x) := z54 hs hx.1 fun p hl => by
      have hm : p ∈ R := List.mem_of_getLast? hl
      have := (z6w hs hl).2
      have hq : p.1 + p.2 - 1 ∈ s1 := by rw [← hf]; exact List.mem_flatMap.2 ⟨p, hm, z4f this⟩
      have := hp _ hq x (by simp)
      omega
    have h2 : (q5w R x).flatMap expand = s1 ++ [x] := by rw [z3p x hs, hf]
    have := j2z s2 (s1 ++ [x]) (q5w R x) (by simpa using h) h1 h2
    simpa using this
end Go.Proofs.YtdjkdmjdcdljmaaGreatDoorY.Runs
namespace Go.Proofs.YtdjkdmjdcdljmaaGreatDoorY.Runs
def byteF (j : Int) (v : BitVec 8) (x : Int) : BitVec 8 := if x / 8 = j then v ||| BitVec.twoPow 8 (x % 8).toNat else v
def z7q (s : List Int) (j : Int) : BitVec 8 := s.foldl (byteF j) 0#8
theorem j22 (s : List Int) (x j : Int) : z7q (s ++ [x]) j = byteF j (z7q s j) x := by simp [z7q]
theorem wrap_u8 {n : Int} (h1 : 0 ≤ n) (h2 : n < 256) : IntKind.u8.wrap n = n := by
  rw [show IntKind.u8.wrap n = n % 256 by simp [Go.IntKind.wrap, Go.IntKind.bits, Go.IntKind.signed]]; omega
theorem put_bit (v : BitVec 8) {k : Nat} (hk : k < 8) : IntKind.u8.wrap (((BitVec.ofInt 8 ((v.toNat : Nat) : Int) ||| BitVec.ofInt 8 (IntKind.u8.wrap ((1 : Int) * (2 : Int) ^ min k 8))).toNat : Nat) : Int) = (((v ||| BitVec.twoPow 8 k).toNat : Nat) : Int) := by
  have e1 : BitVec.ofInt 8 ((v.toNat : Nat) : Int) = v := by rw [BitVec.ofInt_natCast, BitVec.ofNat_toNat, BitVec.setWidth_eq]
  have e2 : BitVec.ofInt 8 (IntKind.u8.wrap ((1 : Int) * (2 : Int) ^ min k 8)) = BitVec.twoPow 8 k := by
    have : ∀ k : Fin 8, BitVec.ofInt 8 (IntKind.u8.wrap ((1 : Int) * (2 : Int) ^ min k.val 8)) = BitVec.twoPow 8 k.val := by decide +kernel
    exact this ⟨k, hk⟩
  rw [e1, e2, wrap_u8 (by omega) (by have := (v ||| BitVec.twoPow 8 k).isLt; omega)]
end Go.Proofs.YtdjkdmjdcdljmaaGreatDoorY.Runs
namespace Go.Proofs.YtdjkdmjdcdljmaaGreatDoorY.Runs
set_option maxRecDepth 100000
def bn (b : Bool) : Nat := if b then 1 else 0
def hB (s p : Nat) (k l h : Bool) : Nat := s + 8 * bn k + 16 * p + 64 * bn l + 128 * bn h
def hOr (s p : Int) : Int := IntKind.i64.wrap (((BitVec.ofInt 64 s ||| BitVec.ofInt 64 (IntKind.i64.wrap (p * (2 : Int) ^ 4))).toNat : Nat) : Int)
def hAdd (b : Bool) (x c : Int) : Int := if b then IntKind.i64.wrap (((BitVec.ofInt 64 x ||| BitVec.ofInt 64 c).toNat : Nat) : Int) else x
theorem put_h : ∀ (s : Fin 8) (p : Fin 4) (k l h : Bool), IntKind.u8.wrap (hAdd h (hAdd l (hAdd k (hOr (s.val : Nat) (p.val : Nat)) 8) 64) 128) = ((hB s.val p.val k l h : Nat) : Int) := by decide +kernel
theorem get_s : ∀ (s : Fin 8) (p : Fin 4) (k l h : Bool), IntKind.i64.wrap (IntKind.u8.wrap (((BitVec.ofInt 8 ((hB s.val p.val k l h : Nat) : Int) &&& BitVec.ofInt 8 (7 : Int)).toNat : Nat) : Int)) = (s.val : Nat) := by decide +kernel
theorem get_p : ∀ (s : Fin 8) (p : Fin 4) (k l h : Bool), IntKind.i64.wrap (IntKind.u8.wrap (((BitVec.ofInt 8 (Int.fdiv ((hB s.val p.val k l h : Nat) : Int) ((2 : Int) ^ 4)) &&& BitVec.ofInt 8 (3 : Int)).toNat : Nat) : Int)) = (p.val : Nat) := by decide +kernel
theorem get_k : ∀ (s : Fin 8) (p : Fin 4) (k l h : Bool), (IntKind.u8.wrap (((BitVec.ofInt 8 ((hB s.val p.val k l h : Nat) : Int) &&& BitVec.ofInt 8 (8 : Int)).toNat : Nat) : Int) == (0 : Int)) = !k := by decide +kernel
theorem get_l : ∀ (s : Fin 8) (p : Fin 4) (k l h : Bool), (IntKind.u8.wrap (((BitVec.ofInt 8 ((hB s.val p.val k l h : Nat) : Int) &&& BitVec.ofInt 8 (64 : Int)).toNat : Nat) : Int) == (0 : Int)) = !l := by decide +kernel
theorem get_h : ∀ (s : Fin 8) (p : Fin 4) (k l h : Bool), (IntKind.u8.wrap (((BitVec.ofInt 8 ((hB s.val p.val k l h : Nat) : Int) &&& BitVec.ofInt 8 (128 : Int)).toNat : Nat) : Int) == (0 : Int)) = !h := by decide +kernel
theorem hB_lt : ∀ (s : Fin 8) (p : Fin 4) (k l h : Bool), hB s.val p.val k l h < 256 := by decide +kernel
end Go.Proofs.YtdjkdmjdcdljmaaGreatDoorY.Runs
namespace Go.Proofs.YtdjkdmjdcdljmaaGreatDoor.AU
open Go.Proofs.YtdjkdmjdcdljmaaGreatDoorY
theorem q0u {n : Int} (h1 : -9223372036854775808 ≤ n) (h2 : n < 9223372036854775808) : IntKind.i64.wrap n = n := by
  rw [Go.IntKind.wrap_i64]; omega
theorem q3g {n : Int} (h1 : 0 ≤ n) (h2 : n < 18446744073709551616) : IntKind.u64.wrap n = n := by
  rw [show IntKind.u64.wrap n = n % 18446744073709551616 by simp [Go.IntKind.wrap, Go.IntKind.bits, Go.IntKind.signed]]; omega
theorem q9q {n : Int} (h1 : 0 ≤ n) (h2 : n < 256) : IntKind.u8.wrap n = n := by
  rw [show IntKind.u8.wrap n = n % 256 by simp [Go.IntKind.wrap, Go.IntKind.bits, Go.IntKind.signed]]; omega
theorem q29 {α : Type} {l l1 l2 : List α} {x : α} (h : l = l1 ++ x :: l2) : l[((l1.length : Nat) : Int).toNat]? = some x := by
  subst h; simp
theorem q2m {α : Type} {l l1 l2 : List α} {x : α} (h : l = l1 ++ x :: l2) : decide (((l1.length : Nat) : Int) < ((l.length : Nat) : Int)) = true := by
  subst h; simp; omega
theorem q2n {α : Type} {l l1 : List α} (h : l = l1 ++ []) : decide (((l1.length : Nat) : Int) < ((l.length : Nat) : Int)) = false := by
  subst h; simp
theorem ge0 {n : Nat} : (decide ((0 : Int) ≤ ((n : Nat) : Int)) && true) = true := by simp
theorem ge0' {n : Nat} : decide ((0 : Int) ≤ ((n : Nat) : Int)) = true := by simp
theorem q1a {α : Type} {l1 : List α} {x : α} (h : l1.length < 1000000000) : IntKind.i64.wrap (((l1.length : Nat) : Int) + (1 : Int)) = (((l1 ++ [x]).length : Nat) : Int) := by
  rw [q0u (by omega) (by omega)]; simp
theorem q1j {α : Type} {l l1 l2 : List α} {x : α} (h : l = l1 ++ x :: l2) : l = (l1 ++ [x]) ++ l2 := by subst h; simp
theorem z5h {A B : Type} {a : A} {f : A → Option B} : q1g (some a) f = f a := rfl
theorem q0z {A B : Type} {o : Option A} {f : A → Option B} : q1g o f = o.bind f := rfl
end Go.Proofs.YtdjkdmjdcdljmaaGreatDoor.AU
namespace Go.Proofs.YtdjkdmjdcdljmaaGreatDoor.AU
open Go.Proofs.YtdjkdmjdcdljmaaGreatDoorY
set_option maxRecDepth 100000
variable {K : Nat}
def j4a (v : Int) : Bool := (decide (97 ≤ v) && decide (v ≤ 122)) || (decide (48 ≤ v) && decide (v ≤ 57))
def z8q (s : ByteArray) : Prop := 1 ≤ s.size ∧ s.size ≤ 12 ∧ (∀ v, (bytesOf s)[0]? = some v → 97 ≤ v ∧ v ≤ 122) ∧ ∀ v ∈ bytesOf s, j4a v = true
theorem q4f (s : ByteArray) : (bytesOf s).length = s.size := by unfold bytesOf; rw [List.length_map]; rfl
theorem j2h {s : ByteArray} (hs : s.size ≤ 12) (h0 : ∀ v, (bytesOf s)[0]? = some v → 97 ≤ v ∧ v ≤ 122) (hg : ∀ v ∈ bytesOf s, j4a v = true) : ∀ (l2 l1 : List Int) (k : Nat), bytesOf s = l1 ++ l2 → l2.length < k →
    q3j.l0.f K k (bytesOf s) (((bytesOf s).length : Nat) : Int) ((l1.length : Nat) : Int) = some (.inl ())
  | l2, l1, 0, h, hk => by omega
  | [], l1, k + 1, h, hk => by
    rw [q3j.l0.f]
    simp only [q2n h, cond_false]
  | x :: l2, l1, k + 1, h, hk => by
    rw [q3j.l0.f]
    have hx := hg x (by rw [h]; simp)
    have hlen : l1.length ≤ 12 := by have := q4f s; rw [h] at this; simp at this; omega
    simp only [q2m h, ge0, q29 h, cond_true, q0b, q1a (l1 := l1) (x := x) (by omega)]
    have ih := j2h hs h0 hg l2 (l1 ++ [x]) k (q1j h) (by simp at hk; omega)
    have key : (q1g (bif decide (x ≥ (97 : Int)) then bif decide (x ≥ (48 : Int)) then some (decide (x ≤ (122 : Int)), decide (x ≤ (57 : Int))) else some (decide (x ≤ (122 : Int)), false) else bif decide (x ≥ (48 : Int)) then some (false, decide (x ≤ (57 : Int))) else some (false, false)) fun t => q1g (bif !t.1 then bif !t.2 then some true else some (((l1.length : Nat) : Int) == (0 : Int)) else some false) fun t => bif t then (some (Sum.inr false) : Option (Unit ⊕ Bool)) else q3j.l0.f K k (bytesOf s) (((bytesOf s).length : Nat) : Int) (((l1 ++ [x]).length : Nat) : Int)) = q3j.l0.f K k (bytesOf s) (((bytesOf s).length : Nat) : Int) (((l1 ++ [x]).length : Nat) : Int) := by
      by_cases hn : l1.length = 0
      · have hl1 : l1 = [] := List.length_eq_zero_iff.1 hn
        subst hl1
        have := h0 x (by rw [h]; simp)
        have a1 : decide (x ≥ (97 : Int)) = true := by simp; omega
        have a2 : decide (x ≤ (122 : Int)) = true := by simp; omega
        have a3 : decide (x ≥ (48 : Int)) = true := by simp; omega
        simp only [a1, a2, a3, cond_true, q0z, q0b, Bool.not_true, cond_false]
      · have a0 : (((l1.length : Nat) : Int) == (0 : Int)) = false := beq_eq_false_iff_ne.2 (by omega)
        simp only [j4a, Bool.or_eq_true, Bool.and_eq_true, decide_eq_true_eq] at hx
        by_cases h97 : 97 ≤ x
        · have a1 : decide (x ≥ (97 : Int)) = true := by simp; omega
          have a2 : decide (x ≤ (122 : Int)) = true := by simp; omega
          have a3 : decide (x ≥ (48 : Int)) = true := by simp; omega
          simp only [a1, a2, a3, cond_true, q0z, q0b, Bool.not_true, cond_false]
        · have a1 : decide (x ≥ (97 : Int)) = false := by simp; omega
          have a2 : decide (x ≤ (57 : Int)) = true := by simp; omega
          have a3 : decide (x ≥ (48 : Int)) = true := by simp; omega
          simp only [a0, a1, a2, a3, cond_true, q0z, q0b, Bool.not_true, Bool.not_false, cond_false]
    exact key.trans ih
theorem z79 (hK : 100 ≤ K) {s : ByteArray} (h : z8q s) : q3j.f K s = some true := by
  obtain ⟨h1, h2, h3, h4⟩ := h
  unfold q3j.f
  have e : Nat.ble s.size 4000000 = true := Nat.ble_eq_true_of_le (by omega)
  have l0 : q3j.l0.f K K (bytesOf s) (((bytesOf s).length : Nat) : Int) (0 : Int) = some (.inl ()) := j2h h2 h3 h4 (bytesOf s) [] K rfl (by rw [q4f]; omega)
  have e2 : (!s.toList == (ByteArray.mk #[]).toList) = true := by
    have : s.toList ≠ (ByteArray.mk #[]).toList := fun hh => by
      rw [ByteArray.toList_eq, ByteArray.toList_eq] at hh
      have := congrArg List.length hh
      have h5 : s.data.toList.length = s.size := rfl
      have h6 : (ByteArray.mk #[]).data.toList.length = 0 := rfl
      rw [h5, h6] at this
      omega
    simpa using this
  have e3 : decide (((s.size : Nat) : Int) ≤ (12 : Int)) = true := by simp; omega
  simp only [e, cond_true, l0, q0b, Sum.elim_inl, e2, e3, q0z]
end Go.Proofs.YtdjkdmjdcdljmaaGreatDoor.AU
namespace Go.Proofs.YtdjkdmjdcdljmaaGreatDoor.AU
open Go.Proofs.YtdjkdmjdcdljmaaGreatDoorY
set_option maxRecDepth 100000
variable {K : Nat}
abbrev names (fs : List q0x) (is : List q0g) : List ByteArray := fs.map (·.1) ++ is.map (·.1)
abbrev arities (fs : List q0x) (is : List q0g) : List Int := fs.map (·.2.1) ++ is.map (·.2)
theorem q27 (a b : Int) : q10.f K a b = some (decide (0 ≤ a) && decide (a < b)) := by
  unfold q10.f
  by_cases h : 0 ≤ a
  · simp [h, q0z]
  · simp [h, q0z]
section
variable {fs : List q0x} {is : List q0g} (hl : fs.length + is.length ≤ 1000)
include hl
theorem name_val {i : Nat} (h : i < (names fs is).length) : z38.f K fs is ((i : Nat) : Int) = some (names fs is)[i] := by
  unfold z38.f
  by_cases hi : i < fs.length
  · have e1 : decide (((i : Nat) : Int) < ((fs.length : Nat) : Int)) = true := by simp; omega
    simp only [q27, q0b, ge0', e1, Bool.and_true, cond_true, Int.toNat_natCast, List.getElem?_eq_getElem hi]
    simp [List.getElem_append, hi]
  · have e1 : decide (((i : Nat) : Int) < ((fs.length : Nat) : Int)) = false := by simp; omega
    have hi2 : i < fs.length + is.length := by simpa using h
    have w : IntKind.i64.wrap (((i : Nat) : Int) - ((fs.length : Nat) : Int)) = ((i - fs.length : Nat) : Int) := by rw [q0u (by omega) (by omega)]; omega
    have e3 : decide (((i - fs.length : Nat) : Int) < ((is.length : Nat) : Int)) = true := by simp; omega
    simp only [q27, q0b, ge0', e1, Bool.and_true, Bool.and_false, cond_true, cond_false, w, e3, Int.toNat_natCast, List.getElem?_eq_getElem (show i - fs.length < is.length by omega)]
    simp [List.getElem_append, hi]
def fnd : List ByteArray → Nat → ByteArray → Option Nat
  | [], _, _ => none
  | n :: r, i, s => if n.toList == s.toList then some i else fnd r (i + 1) s
def fndI (l : List ByteArray) (s : ByteArray) : Int := match fnd l 0 s with
  | some i => i
  | none => -1
omit hl in
def outF : Option Nat → Unit ⊕ Int
  | some i => .inr i
  | none => .inl ()
theorem find_l0 {s : ByteArray} : ∀ (l2 l1 : List ByteArray) (k : Nat), names fs is = l1 ++ l2 → l2.length < k → q7m.l0.f K k s ((fs.length + is.length : Nat) : Int) ((l1.length : Nat) : Int) fs is = some (outF (fnd l2 l1.length s))
  | l2, l1, 0, h, hk => by omega
  | [], l1, k + 1, h, hk => by
    rw [q7m.l0.f]
    have hn : l1.length = fs.length + is.length := by have := congrArg List.length h; simp at this; omega
    have e : decide (((l1.length : Nat) : Int) < ((fs.length + is.length : Nat) : Int)) = false := by simp; omega
    simp only [e, cond_false, fnd, outF]
  | x :: l2, l1, k + 1, h, hk => by
    rw [q7m.l0.f]
    have hn : l1.length + 1 + l2.length = fs.length + is.length := by have := congrArg List.length h; simp at this; omega
    have e : decide (((l1.length : Nat) : Int) < ((fs.length + is.length : Nat) : Int)) = true := by simp; omega
    have hx : (names fs is)[l1.length]'(by simp; omega) = x := by simp only [h]; simp
    simp only [q0b, e, cond_true, name_val hl (i := l1.length) (by simp; omega), hx, fnd]
    cases hc : x.toList == s.toList with
    | true => simp [outF]
    | false =>
      simp only [cond_false]
      rw [q1a (x := x) (by omega), find_l0 l2 (l1 ++ [x]) k (q1j h) (by simp at hk; omega)]
      simp
theorem z3h (hK : 20000 ≤ K) (s : ByteArray) : q7m.f K fs is s = some (fndI (names fs is) s) := by
  unfold q7m.f
  have w : IntKind.i64.wrap (((fs.length : Nat) : Int) + ((is.length : Nat) : Int)) = ((fs.length + is.length : Nat) : Int) := by rw [q0u (by omega) (by omega)]; simp
  have : q7m.l0.f K K s ((fs.length + is.length : Nat) : Int) (0 : Int) fs is = some (outF (fnd (names fs is) 0 s)) := find_l0 hl (names fs is) [] K rfl (by simp; omega)
  rw [w, this]
  unfold fndI
  cases fnd (names fs is) 0 s <;> rfl
def arI (l : List Int) (i : Int) : Int := if 0 ≤ i then (match l[i.toNat]? with | some v => v | none => -1) else -1
theorem z91 {i : Int} (hb : -1000000 ≤ i ∧ i ≤ 1000000) : q9r.f K fs is i = some (arI (arities fs is) i) := by
  unfold q9r.f arI
  by_cases h0 : 0 ≤ i
  · rw [if_pos h0]
    obtain ⟨n, rfl⟩ : ∃ n : Nat, i = n := ⟨i.toNat, by omega⟩
    by_cases hi : n < fs.length
    · have e1 : decide (((n : Nat) : Int) < ((fs.length : Nat) : Int)) = true := by simp; omega
      simp only [q27, ge0', cond_true, e1, q0b, Bool.and_true, Int.toNat_natCast, List.getElem?_eq_getElem hi]
      rw [List.getElem?_append_left (by simpa using hi)]
      simp [hi]
    · have e1 : decide (((n : Nat) : Int) < ((fs.length : Nat) : Int)) = false := by simp; omega
      have w : IntKind.i64.wrap (((n : Nat) : Int) - ((fs.length : Nat) : Int)) = ((n - fs.length : Nat) : Int) := by rw [q0u (by omega) (by omega)]; omega
      simp only [q27, ge0', ge_iff_le, cond_true, cond_false, e1, q0z, q0b, Bool.and_true, Bool.and_false, w, Int.toNat_natCast]
      rw [List.getElem?_append_right (by simpa using hi)]
      simp only [List.length_map]
      by_cases hi2 : n < fs.length + is.length
      · have e3 : decide (((n - fs.length : Nat) : Int) < ((is.length : Nat) : Int)) = true := by simp; omega
        simp only [e3, Bool.and_true, cond_true, ge0', q0b, List.getElem?_eq_getElem (show n - fs.length < is.length by omega)]
        simp [List.getElem?_eq_getElem (show n - fs.length < is.length by omega)]
      · have e3 : decide (((n - fs.length : Nat) : Int) < ((is.length : Nat) : Int)) = false := by simp; omega
        simp only [e3, Bool.and_false, cond_false, q0b]
        have e9 : (is.map (·.2))[n - fs.length]? = none := List.getElem?_eq_none (by rw [List.length_map]; omega)
        simp only [e9]
  · rw [if_neg h0]
    have e0 : decide (0 ≤ i) = false := by simp; omega
    have e0' : decide (i ≥ (0 : Int)) = false := by simp; omega
    simp only [q27, e0, e0', Bool.false_and, cond_false, q0z, q0b]
end
end Go.Proofs.YtdjkdmjdcdljmaaGreatDoor.AU
namespace Go.Proofs.YtdjkdmjdcdljmaaGreatDoor.AU
open Go.Proofs.YtdjkdmjdcdljmaaGreatDoorY
set_option maxRecDepth 100000
set_option maxHeartbeats 4000000
variable {K : Nat}
def q8z (op : Int) : Bool := (decide (1 ≤ op) && decide (op ≤ 13)) || (op == 15 || op == 17)
def z03 (op : Int) : Bool := (decide (2 ≤ op) && decide (op ≤ 12)) || (op == 14 || op == 16)
def z4a (op : Int) : Bool := decide (4 ≤ op) && decide (op ≤ 12)
def reg (regs v : Int) : Prop := 0 ≤ v ∧ v < regs
structure z2i (nc : Nat) (ar : List Int) (regs : Int) (x : q3n) : Prop where
  op : 1 ≤ x.1 ∧ x.1 ≤ 17
  d : if q8z x.1 then reg regs x.2.1 else x.2.1 = 0
  a : if z03 x.1 then reg regs x.2.2.1 else x.2.2.1 = 0
  b : if z4a x.1 then reg regs x.2.2.2.1 else if x.1 = 13 ∨ x.1 = 14 then reg nc x.2.2.2.1 else if x.1 = 17 then reg ar.length x.2.2.2.1 ∧ arI ar x.2.2.2.1 = x.2.2.2.2.2.length else x.2.2.2.1 = 0
  n : x.1 ≠ 1 → x.2.2.2.2.1 = 0
  args : if x.1 = 17 then ∀ v ∈ x.2.2.2.2.2, reg regs v else x.2.2.2.2.2 = []
theorem q9y {op : Int} (h1 : 1 ≤ op) (h2 : op ≤ 17) : op = 1 ∨ op = 2 ∨ op = 3 ∨ op = 4 ∨ op = 5 ∨ op = 6 ∨ op = 7 ∨ op = 8 ∨ op = 9 ∨ op = 10 ∨ op = 11 ∨ op = 12 ∨ op = 13 ∨ op = 14 ∨ op = 15 ∨ op = 16 ∨ op = 17 := by omega
theorem z1j {α : Type} {c : Bool} {a b : α} : (bif c then some a else some b) = some (bif c then a else b) := by cases c <;> rfl
theorem c_or {a b : Bool} : (bif a then true else b) = (a || b) := by cases a <;> rfl
theorem c_and {a b : Bool} : (bif a then b else false) = (a && b) := by cases a <;> rfl
theorem c_imp {a b c : Bool} : (bif !a then b else c) = bif a then c else b := by cases a <;> rfl
end Go.Proofs.YtdjkdmjdcdljmaaGreatDoor.AU
namespace Go.Proofs.YtdjkdmjdcdljmaaGreatDoor.AU
open Go.Proofs.YtdjkdmjdcdljmaaGreatDoorY
set_option maxRecDepth 100000
set_option maxHeartbeats 4000000
variable {K : Nat}
theorem z8p {regs : Int} {l : List Int} (hl : l.length ≤ 1000) (ha : ∀ v ∈ l, reg regs v) : ∀ (l2 l1 : List Int) (k : Nat), l = l1 ++ l2 → l2.length < k → q09.l0.f K k l ((l.length : Nat) : Int) ((l1.length : Nat) : Int) regs = some (.inl ())
  | l2, l1, 0, h, hk => by omega
  | [], l1, k + 1, h, hk => by
    rw [q09.l0.f]
    simp only [q2n h, cond_false]
  | x :: l2, l1, k + 1, h, hk => by
    rw [q09.l0.f]
    have hl1 : l1.length ≤ 1000 := by rw [h] at hl; simp at hl; omega
    have hx := ha x (by rw [h]; simp)
    have e : (decide (0 ≤ x) && decide (x < regs)) = true := by simpa [reg] using hx
    simp only [q2m h, ge0, q29 h, cond_true, q0b, q4g.f, q27, q1a (l1 := l1) (x := x) (by omega), e, Bool.not_true, cond_false]
    exact z8p hl ha l2 (l1 ++ [x]) k (q1j h) (by simp at hk; omega)
theorem z9d (hK : 20000 ≤ K) {regs : Int} {l : List Int} (hl : l.length ≤ 1000) (ha : ∀ v ∈ l, reg regs v) : q1y.f K l regs = some false := by
  unfold q1y.f q09.f
  have : q09.l0.f K K l ((l.length : Nat) : Int) (0 : Int) regs = some (.inl ()) := z8p hl ha l [] K rfl (by omega)
  simp [this]
theorem insn_val (hK : 20000 ≤ K) {cells : List Int} {fs : List q0x} {is : List q0g} (hl : fs.length + is.length ≤ 1000) {regs op d a b n : Int} {args : List Int} (ha : args.length ≤ 1000)
    (h : z2i cells.length (arities fs is) regs (op, d, a, b, n, args)) : q3l.f K cells fs is regs op d a b n args = some 0 := by
  obtain ⟨⟨h1, h2⟩, hd, hA, hb, hn, hg⟩ := h
  dsimp only at *
  have len : (arities fs is).length = fs.length + is.length := by simp
  unfold q3l.f q55.f
  simp only [q0z, q0b, z1j, c_or, c_and, c_imp, q27]
  by_cases h17 : op = 17
  · subst h17
    simp [q8z, z03, z4a, reg] at hd hA hb hn hg
    have e2 : arI (arities fs is) b = args.length := hb.2
    have e3 := z9d (K := K) hK (regs := regs) (l := args) ha hg
    have e5 : (((args.length : Nat) : Int) == -1) = false := beq_eq_false_iff_ne.2 (by omega)
    simp [q2l.f, hd, hA, hn, z91 (K := K) hl (i := b) (by omega), e2, e3, e5, hb]
  · simp only [h17, if_false] at hg
    have hop := q9y h1 h2
    rcases hop with rfl | rfl | rfl | rfl | rfl | rfl | rfl | rfl | rfl | rfl | rfl | rfl | rfl | rfl | rfl | rfl | rfl <;> first | exact absurd rfl h17 | skip
    all_goals (simp [q8z, z03, z4a, reg] at hd hA hb hn <;> simp [q2l.f, hd, hA, hb, hn, hg])
structure z45 (regs : Int) (nb : Nat) (e : LEnd) : Prop where
  op : 1 ≤ e.1 ∧ e.1 ≤ 3
  a : if e.1 = 1 then e.2.1 = 0 else reg regs e.2.1
  to : if e.1 = 3 then e.2.2.1 = 0 else reg nb e.2.2.1
  els : if e.1 = 2 then reg nb e.2.2.2 else e.2.2.2 = 0
theorem z1r {c : Bool} {v X : Int} (hv : v ≠ 0) (h : (bif c then v else X) = 0) : c = false ∧ X = 0 := by
  cases c with
  | true => exact absurd h hv
  | false => exact ⟨rfl, h⟩
theorem end_val {regs : Int} {bs : List q1m} {o a t e : Int} (h : z45 regs bs.length (o, a, t, e)) : q5r.f K regs bs o a t e = some 0 := by
  obtain ⟨⟨h1, h2⟩, hA, ht, he⟩ := h
  dsimp only at *
  unfold q5r.f
  simp only [q0z, q0b, z1j, c_or, c_and, c_imp, q27]
  have : o = 1 ∨ o = 2 ∨ o = 3 := by omega
  rcases this with rfl | rfl | rfl
  all_goals (simp [reg] at hA ht he; simp [hA, ht, he])
structure z4d (nc : Nat) (ar : List Int) (regs : Int) (nb : Nat) (b : q1m) : Prop where
  len : b.1.length ≤ 12
  insns : ∀ x ∈ b.1, z2i nc ar regs x
  fin : z45 regs nb b.2
structure okFunc (nc : Nat) (ar : List Int) (f : q0x) : Prop where
  name : z8q f.1
  arity : 0 ≤ f.2.1 ∧ f.2.1 ≤ 4
  regs : 1 ≤ f.2.2.1 ∧ f.2.2.1 ≤ 8 ∧ f.2.1 ≤ f.2.2.1
  blocks : 1 ≤ f.2.2.2.length ∧ f.2.2.2.length ≤ 12
  each : ∀ b ∈ f.2.2.2, z4d nc ar f.2.2.1 f.2.2.2.length b
section
variable {cells : List Int} {fs : List q0x} {is : List q0g} (hl : fs.length + is.length ≤ 1000)
include hl
end
end Go.Proofs.YtdjkdmjdcdljmaaGreatDoor.AU
namespace Go.Proofs.YtdjkdmjdcdljmaaGreatDoor.AU
open Go.Proofs.YtdjkdmjdcdljmaaGreatDoorY
set_option maxRecDepth 100000
set_option maxHeartbeats 4000000
variable {K : Nat}
def afterB (is : List q0g) (i : Nat) (m : q0g) : Prop := ∀ j p, i = j + 1 → is[j]? = some p → (Op.bytesLess m.1.toList p.1.toList || m.1.toList == p.1.toList) = false
structure z7n (fs : List q0x) (is : List q0g) (i : Nat) (m : q0g) : Prop where
  name : z8q m.1
  after : afterB is i m
  new : ((fs.length : Nat) : Int) ≤ fndI (names fs is) m.1
  arity : 0 ≤ m.2 ∧ m.2 ≤ 4
structure WF (cells : List Int) (fs : List q0x) (is : List q0g) : Prop where
  ncells : cells.length ≤ 16
  count : fs.length + is.length ≤ 24
  funcs : ∀ (i : Nat) f, fs[i]? = some f → okFunc cells.length (arities fs is) f ∧ ((i : Nat) : Int) ≤ fndI (names fs is) f.1
  imports : ∀ (i : Nat) m, is[i]? = some m → z7n fs is i m
theorem prev_get {α : Type} {l l1 l2 : List α} {x p : α} {l0 : List α} (h : l = l1 ++ x :: l2) (h1 : l1 = l0 ++ [p]) : l[((l1.length : Nat) : Int).toNat - 1]? = some p ∧ l[l0.length]? = some p := by
  subst h h1; simp
section
variable {cells : List Int} {fs : List q0x} {is : List q0g} (hl : fs.length + is.length ≤ 1000)
include hl
theorem prevs {l1 l2 : List q0g} {x : q0g} (h : is = l1 ++ x :: l2) : ∃ b : Bool, (bif decide (((l1.length : Nat) : Int) > (0 : Int)) then bif decide ((0 : Int) ≤ IntKind.i64.wrap (((l1.length : Nat) : Int) - (1 : Int))) && true then is[(IntKind.i64.wrap (((l1.length : Nat) : Int) - (1 : Int))).toNat]?.bind fun t_2 => some (Op.bytesLess (ByteArray.toList x.1) (ByteArray.toList t_2.1) || ByteArray.toList x.1 == ByteArray.toList t_2.1) else none else some false) = some b ∧ (b = false ↔ afterB is l1.length x) := by
  rcases List.eq_nil_or_concat l1 with rfl | ⟨l0, p, rfl⟩
  · exact ⟨false, rfl, fun _ j p hj => by simp at hj, fun _ => rfl⟩
  · simp only [List.concat_eq_append] at h ⊢
    have hlen : (l0 ++ [p]).length = l0.length + 1 := by simp
    have hl0 : l0.length ≤ 1000 := by have := hl; rw [h] at this; simp at this; omega
    have e1 : decide ((((l0 ++ [p]).length : Nat) : Int) > (0 : Int)) = true := by rw [decide_eq_true_eq, hlen]; omega
    have w : IntKind.i64.wrap ((((l0 ++ [p]).length : Nat) : Int) - (1 : Int)) = ((l0.length : Nat) : Int) := by rw [q0u (by rw [hlen]; omega) (by rw [hlen]; omega), hlen]; omega
    have hp : is[l0.length]? = some p := (prev_get h rfl).2
    refine ⟨(Op.bytesLess x.1.toList p.1.toList || x.1.toList == p.1.toList), by simp only [e1, w, ge0, cond_true, Int.toNat_natCast, hp, q0b], ?_, ?_⟩
    · intro hb j q hj hq
      rw [hlen] at hj
      have : j = l0.length := by omega
      subst this
      rw [hp] at hq
      cases hq
      exact hb
    · intro ha
      exact ha l0.length p hlen hp
end
theorem j11 (hK : 20000 ≤ K) {cells : List Int} {fs : List q0x} {is : List q0g} (hl : fs.length + is.length ≤ 1000) {regs : Int} {l : List q3n} (hll : l.length ≤ 1000) (ho : ∀ x ∈ l, z2i cells.length (arities fs is) regs x) (hla : ∀ x ∈ l, x.2.2.2.2.2.length ≤ 1000) : ∀ (l2 l1 : List q3n) (k : Nat), l = l1 ++ l2 → l2.length < k →
    q1z.l0.f K k l ((l.length : Nat) : Int) ((l1.length : Nat) : Int) cells fs is regs = some (.inl ())
  | l2, l1, 0, h, hk => by omega
  | [], l1, k + 1, h, hk => by
    rw [q1z.l0.f]
    simp only [q2n h, cond_false]
  | x :: l2, l1, k + 1, h, hk => by
    rw [q1z.l0.f]
    have hl1 : l1.length ≤ 1000 := by rw [h] at hll; simp at hll; omega
    have hx : x ∈ l := by rw [h]; simp
    simp only [q2m h, ge0, q29 h, cond_true, q0b, q1a (l1 := l1) (x := x) (by omega), insn_val hK hl (hla x hx) (ho x hx), show ((0 : Int) != 0) = false from rfl, cond_false]
    exact j11 hK hl hll ho hla l2 (l1 ++ [x]) k (q1j h) (by simp at hk; omega)
theorem j0e {nc : Nat} {ar : List Int} {regs : Int} {x : q3n} (h : z2i nc ar regs x) (har : ∀ v ∈ ar, v ≤ 4) : x.2.2.2.2.2.length ≤ 4 := by
  have h1 := h.args
  have h2 := h.b
  by_cases h17 : x.1 = 17
  · rw [if_neg (by rw [h17]; decide), if_neg (by omega), if_pos h17] at h2
    obtain ⟨⟨q1, q2⟩, q3⟩ := h2
    unfold arI at q3
    rw [if_pos q1] at q3
    split at q3
    · rename_i v hv
      have := har v (List.mem_of_getElem? hv)
      omega
    · omega
  · rw [if_neg h17] at h1
    rw [h1]; simp
theorem WF.ar_le {cells : List Int} {fs : List q0x} {is : List q0g} (h : WF cells fs is) : ∀ v ∈ arities fs is, v ≤ 4 := by
  intro v hv
  rcases List.mem_append.1 hv with hv | hv
  · obtain ⟨f, hf, rfl⟩ := List.mem_map.1 hv
    obtain ⟨i, hi⟩ := List.mem_iff_getElem?.1 hf
    exact (h.funcs i f hi).1.arity.2
  · obtain ⟨m, hm, rfl⟩ := List.mem_map.1 hv
    obtain ⟨i, hi⟩ := List.mem_iff_getElem?.1 hm
    exact (h.imports i m hi).arity.2
theorem block_val (hK : 20000 ≤ K) {cells : List Int} {fs : List q0x} {is : List q0g} (hl : fs.length + is.length ≤ 1000) (har : ∀ v ∈ arities fs is, v ≤ 4) {regs : Int} {bs : List q1m} {b : q1m} (h : z4d cells.length (arities fs is) regs bs.length b) :
    q1z.f K cells fs is regs bs b.1 b.2.1 b.2.2.1 b.2.2.2.1 b.2.2.2.2 = some Err.nil := by
  unfold q1z.f
  have h12 := h.len
  have e0 : decide (((b.1.length : Nat) : Int) > (12 : Int)) = false := by simp; omega
  have l0 : q1z.l0.f K K b.1 ((b.1.length : Nat) : Int) (0 : Int) cells fs is regs = some (.inl ()) := j11 hK hl (by omega) h.insns (fun x hx => by have := j0e (h.insns x hx) har; omega) b.1 [] K rfl (by omega)
  have e := end_val (K := K) (regs := regs) (bs := bs) (o := b.2.1) (a := b.2.2.1) (t := b.2.2.2.1) (e := b.2.2.2.2) h.fin
  simp only [e0, cond_false, l0, q0b, Sum.elim_inl, e, show ((0 : Int) != 0) = false from rfl]
theorem func_l0 (hK : 20000 ≤ K) {cells : List Int} {fs : List q0x} {is : List q0g} (hl : fs.length + is.length ≤ 1000) (har : ∀ v ∈ arities fs is, v ≤ 4) {p : Int} (hp : 0 ≤ p) {f : q0x} (hf : fs[p.toNat]? = some f) {l : List q1m} (hll : l.length ≤ 1000) (ho : ∀ b ∈ l, z4d cells.length (arities fs is) f.2.2.1 f.2.2.2.length b) : ∀ (l2 l1 : List q1m) (k : Nat), l = l1 ++ l2 → l2.length < k →
    q1n.l0.f K k p l ((l.length : Nat) : Int) ((l1.length : Nat) : Int) cells fs is = some (.inl ())
  | l2, l1, 0, h, hk => by omega
  | [], l1, k + 1, h, hk => by
    rw [q1n.l0.f]
    simp only [q2n h, cond_false]
  | x :: l2, l1, k + 1, h, hk => by
    rw [q1n.l0.f]
    have hl1 : l1.length ≤ 1000 := by rw [h] at hll; simp at hll; omega
    have hx : x ∈ l := by rw [h]; simp
    simp only [q2m h, ge0, q29 h, cond_true, q0b, q1a (l1 := l1) (x := x) (by omega), decide_eq_true hp, Bool.and_true, hf, block_val hK hl har (ho x hx), Err.isNil, Bool.not_true, cond_false]
    exact func_l0 hK hl har hp hf hll ho l2 (l1 ++ [x]) k (q1j h) (by simp at hk; omega)
theorem z9j (hK : 20000 ≤ K) {cells : List Int} {fs : List q0x} {is : List q0g} (h : WF cells fs is) {i : Nat} {f : q0x} (hi : fs[i]? = some f) : q1n.f K cells fs is ((i : Nat) : Int) = some Err.nil := by
  have hl : fs.length + is.length ≤ 1000 := by have := h.count; omega
  obtain ⟨ok, hn⟩ := h.funcs i f hi
  unfold q1n.f q38.f
  have hb := ok.blocks
  have hr := ok.regs
  have ha := ok.arity
  have l0 : q1n.l0.f K K ((i : Nat) : Int) f.2.2.2 ((f.2.2.2.length : Nat) : Int) (0 : Int) cells fs is = some (.inl ()) := func_l0 hK hl h.ar_le (by omega) (by simpa using hi) (by omega) ok.each f.2.2.2 [] K rfl (by omega)
  have e1 : decide (fndI (names fs is) f.1 < ((i : Nat) : Int)) = false := by simp; omega
  have e2 : (decide (0 ≤ f.2.1) && decide (f.2.1 < 5)) = true := by simp; omega
  have e3 : decide (f.2.2.1 < if (1 : Int) > f.2.1 then (1 : Int) else f.2.1) = false := by simp; split <;> omega
  have e4 : decide (f.2.2.1 > (8 : Int)) = false := by simp; omega
  have e5 : decide (((f.2.2.2.length : Nat) : Int) < (1 : Int)) = false := by simp; omega
  have e6 : decide (((f.2.2.2.length : Nat) : Int) > (12 : Int)) = false := by simp; omega
  simp only [ge0, cond_true, Int.toNat_natCast, hi, q0b, z79 (K := K) (by omega) ok.name, Bool.not_true, cond_false, z3h hl hK, e1, q27, e2, q0z, e3, e4, e5, e6, show ((0 : Int) != 0) = false from rfl, l0, Sum.elim_inl]
theorem z85 (hK : 20000 ≤ K) {cells : List Int} {fs : List q0x} {is : List q0g} (h : WF cells fs is) {l1 l2 : List q0g} {x : q0g} (hi : is = l1 ++ x :: l2) : q21.f K fs is ((l1.length : Nat) : Int) = some 0 := by
  have hl : fs.length + is.length ≤ 1000 := by have := h.count; omega
  have ok := h.imports l1.length x (by rw [hi]; simp)
  obtain ⟨pb, p1, p2⟩ := prevs (hl := hl) hi
  have hpb := p2.2 ok.after
  subst hpb
  have ha := ok.arity
  unfold q21.f
  have e1 : decide (fndI (names fs is) x.1 < ((fs.length : Nat) : Int)) = false := by have := ok.new; simp; omega
  have e2 : (decide (0 ≤ x.2) && decide (x.2 < 5)) = true := by simp; omega
  simp only [ge0, cond_true, q29 hi, q0b, z79 (K := K) (by omega) ok.name, Bool.not_true, cond_false, q0z, p1, z3h hl hK, e1, q27, e2]
theorem z8z (hK : 20000 ≤ K) {cells : List Int} {fs : List q0x} {is : List q0g} (h : WF cells fs is) : ∀ (l2 l1 : List q0x) (k : Nat), fs = l1 ++ l2 → l2.length < k → q2g.l0.f K k ((fs.length : Nat) : Int) ((l1.length : Nat) : Int) cells fs is = some (.inl ())
  | l2, l1, 0, hh, hk => by omega
  | [], l1, k + 1, hh, hk => by
    rw [q2g.l0.f]
    simp only [q2n hh, cond_false]
  | x :: l2, l1, k + 1, hh, hk => by
    rw [q2g.l0.f]
    have hl1 : l1.length ≤ 1000 := by have := h.count; rw [hh] at this; simp at this; omega
    simp only [q2m hh, cond_true, z9j hK h (show fs[l1.length]? = some x by rw [hh]; simp), q0b, Err.isNil, Bool.not_true, cond_false, q1a (l1 := l1) (x := x) (by omega)]
    exact z8z hK h l2 (l1 ++ [x]) k (q1j hh) (by simp at hk; omega)
theorem z9b (hK : 20000 ≤ K) {cells : List Int} {fs : List q0x} {is : List q0g} (h : WF cells fs is) : ∀ (l2 l1 : List q0g) (k : Nat), is = l1 ++ l2 → l2.length < k → q2g.l1.f K k ((is.length : Nat) : Int) ((l1.length : Nat) : Int) fs is = some (.inl ())
  | l2, l1, 0, hh, hk => by omega
  | [], l1, k + 1, hh, hk => by
    rw [q2g.l1.f]
    simp only [q2n hh, cond_false]
  | x :: l2, l1, k + 1, hh, hk => by
    rw [q2g.l1.f]
    have hl1 : l1.length ≤ 1000 := by have := h.count; rw [hh] at this; simp at this; omega
    simp only [q2m hh, cond_true, z85 hK h hh, q0b, show ((0 : Int) != 0) = false from rfl, cond_false, q1a (l1 := l1) (x := x) (by omega)]
    exact z9b hK h l2 (l1 ++ [x]) k (q1j hh) (by simp at hk; omega)
theorem z5e (hK : 20000 ≤ K) {cells : List Int} {fs : List q0x} {is : List q0g} (h : WF cells fs is) : q2g.f K cells fs is = some Err.nil := by
  unfold q2g.f
  have hc := h.ncells
  have hn := h.count
  have w : IntKind.i64.wrap (((fs.length : Nat) : Int) + ((is.length : Nat) : Int)) = ((fs.length + is.length : Nat) : Int) := by rw [q0u (by omega) (by omega)]; simp
  have e1 : decide (((cells.length : Nat) : Int) > (16 : Int)) = false := by simp; omega
  have e2 : decide (((fs.length + is.length : Nat) : Int) > (24 : Int)) = false := by simp; omega
  have l0 : q2g.l0.f K K ((fs.length : Nat) : Int) (0 : Int) cells fs is = some (.inl ()) := z8z hK h fs [] K rfl (by omega)
  have l1 : q2g.l1.f K K ((is.length : Nat) : Int) (0 : Int) fs is = some (.inl ()) := z9b hK h is [] K rfl (by omega)
  simp only [q0z, w, e1, e2, cond_false, q0b, l0, l1, Sum.elim_inl]
end Go.Proofs.YtdjkdmjdcdljmaaGreatDoor.AU
namespace Go.Proofs.YtdjkdmjdcdljmaaGreatDoor.AU
open Go.Proofs.YtdjkdmjdcdljmaaGreatDoorY
set_option maxRecDepth 100000
set_option maxHeartbeats 4000000
variable {K : Nat}
def encN : Nat → Nat → List Int
  | 0, n => [((n : Nat) : Int)]
  | f + 1, n => if n < 128 then [((n : Nat) : Int)] else (((n % 128 + 128 : Nat)) : Int) :: encN f (n / 128)
abbrev encU (n : Nat) : List Int := encN 9 n
theorem z1v {n : Nat} (h : n < 128) : encU n = [((n : Nat) : Int)] := by simp [encU, encN, h]
theorem j2b : ∀ (f n : Nat), 1 ≤ (encN f n).length ∧ (encN f n).length ≤ f + 1
  | 0, n => by simp [encN]
  | f + 1, n => by
    have := j2b f (n / 128)
    unfold encN
    split <;> simp <;> omega
theorem q91 {n : Nat} (h : n < 18446744073709551616) : (BitVec.ofInt 64 ((n : Nat) : Int)).toNat = n := by
  simp [BitVec.toNat_ofInt]; omega
theorem toNat8_of {n : Nat} (h : n < 256) : (BitVec.ofInt 8 ((n : Nat) : Int)).toNat = n := by
  simp [BitVec.toNat_ofInt]; omega
theorem and127 {n : Nat} (h : n < 18446744073709551616) : (BitVec.ofInt 64 ((n : Nat) : Int) &&& BitVec.ofInt 64 (127 : Int)).toNat = n % 128 := by
  rw [BitVec.toNat_and, q91 h]
  show n &&& 127 = n % 128
  exact Nat.and_two_pow_sub_one_eq_mod n 7
theorem and127b {n : Nat} (h : n < 256) : (BitVec.ofInt 8 ((n : Nat) : Int) &&& BitVec.ofInt 8 (127 : Int)).toNat = n % 128 := by
  rw [BitVec.toNat_and, toNat8_of h]
  show n &&& 127 = n % 128
  exact Nat.and_two_pow_sub_one_eq_mod n 7
theorem or128 : ∀ n : Fin 128, (BitVec.ofInt 8 ((n.val : Nat) : Int) ||| BitVec.ofInt 8 (128 : Int)).toNat = n.val + 128 := by decide +kernel
theorem q62 {b : Int} {l : List Int} (h : l.length < 4000000) : q0n.f K b l = some (l ++ [b]) := by
  unfold q0n.f
  have : Nat.ble (l.length + [b].length) 4000000 = true := Nat.ble_eq_true_of_le (by simp; omega)
  rw [this]; rfl
theorem uint_l0 : ∀ (f n k : Nat) (l : List Int), n < 128 ^ (f + 1) → n < 18446744073709551616 → f < k → l.length + f + 1 ≤ 4000000 → ∃ m : Nat, m < 128 ∧ ∃ l', q0d.l0.f K k ((n : Nat) : Int) l = some (((m : Nat) : Int), l') ∧ l' ++ [((m : Nat) : Int)] = l ++ encN f n ∧ l'.length < 4000000
  | f, n, 0, l, hn, hn2, hk, hl => by omega
  | f, n, k + 1, l, hn, hn2, hk, hl => by
    rw [q0d.l0.f]
    by_cases h : n < 128
    · have e : decide (((n : Nat) : Int) > (127 : Int)) = false := by simp; omega
      simp only [e, cond_false]
      refine ⟨n, h, l, rfl, ?_, by omega⟩
      cases f <;> simp [encN, h]
    · have e : decide (((n : Nat) : Int) > (127 : Int)) = true := by simp; omega
      have b1 : IntKind.u8.wrap (IntKind.u64.wrap (((BitVec.ofInt 64 ((n : Nat) : Int) &&& BitVec.ofInt 64 (127 : Int)).toNat : Nat) : Int)) = ((n % 128 : Nat) : Int) := by
        rw [and127 hn2, q3g (by omega) (by omega), q9q (by omega) (by omega)]
      have b2 : IntKind.u8.wrap (((BitVec.ofInt 8 ((n % 128 : Nat) : Int) ||| BitVec.ofInt 8 (128 : Int)).toNat : Nat) : Int) = ((n % 128 + 128 : Nat) : Int) := by
        rw [or128 ⟨n % 128, by omega⟩, q9q (by omega) (by omega)]
      have b3 : (((n : Nat) : Int).fdiv ((2 : Int) ^ 7)) = ((n / 128 : Nat) : Int) := by
        rw [Int.fdiv_eq_ediv_of_nonneg _ (by decide)]; simp
      match f, hn, hk, hl with
      | 0, hn, _, _ => exact absurd hn (by simpa using h)
      | f + 1, hn, hk, hl =>
        simp only [e, cond_true, b1, b2, b3, q62 (K := K) (l := l) (show l.length < 4000000 by omega), q0b]
        obtain ⟨m, h1, l', h2, h3, h4⟩ := uint_l0 f (n / 128) k (l ++ [((n % 128 + 128 : Nat) : Int)]) (by rw [Nat.pow_succ] at hn; exact Nat.div_lt_of_lt_mul (by rw [Nat.mul_comm]; exact hn)) (by omega) (by omega) (by simp; omega)
        refine ⟨m, h1, l', h2, ?_, h4⟩
        rw [h3]
        simp [encN, h]
theorem z1k (hK : 20000 ≤ K) {n : Nat} {l : List Int} (hn : n < 18446744073709551616) (hl : l.length + 10 ≤ 4000000) : q0d.f K ((n : Nat) : Int) l = some (l ++ encU n) := by
  unfold q0d.f
  obtain ⟨m, h1, l', h2, h3, h4⟩ := uint_l0 (K := K) 9 n K l (by omega) hn (by omega) hl
  rw [h2]
  simp only [q0b, q9q (n := ((m : Nat) : Int)) (by omega) (by omega), q62 (K := K) (l := l') h4, h3]
theorem q64 (hK : 20000 ≤ K) {n : Int} {l : List Int} (h0 : 0 ≤ n) (hn : n < 128) (hl : l.length + 10 ≤ 4000000) : q0d.f K (IntKind.u64.wrap n) l = some (l ++ [n]) := by
  obtain ⟨m, rfl⟩ : ∃ m : Nat, n = m := ⟨n.toNat, by omega⟩
  rw [q3g (by omega) (by omega), z1k hK (by omega) hl, z1v (by omega)]
theorem or_add {a b i : Nat} (h : b < 2 ^ i) : b ||| a * 2 ^ i = b + a * 2 ^ i := by
  rw [Nat.or_comm, ← Nat.shiftLeft_eq, Nat.add_comm]
  exact (Nat.shiftLeft_add_eq_or_of_lt h a).symm
end Go.Proofs.YtdjkdmjdcdljmaaGreatDoor.AU
namespace Go.Proofs.YtdjkdmjdcdljmaaGreatDoor.AU
open Go.Proofs.YtdjkdmjdcdljmaaGreatDoorY
set_option maxRecDepth 100000
set_option maxHeartbeats 4000000
variable {K : Nat}
def i64 (n : Int) : Prop := -9223372036854775808 ≤ n ∧ n < 9223372036854775808
def zz (n : Int) : Nat := if 0 ≤ n then (2 * n).toNat else (-2 * n - 1).toNat
abbrev encI (n : Int) : List Int := encU (zz n)
theorem zz_lt {n : Int} (h : i64 n) : zz n < 18446744073709551616 := by unfold zz; unfold i64 at h; split <;> omega
theorem j2j {n : Nat} (h : n < 18446744073709551616) : (BitVec.ofInt 64 ((n : Nat) : Int) ^^^ BitVec.allOnes 64).toNat = 18446744073709551615 - n := by
  rw [BitVec.xor_allOnes, BitVec.toNat_not, q91 h]
theorem j39 : BitVec.ofInt 64 (18446744073709551615 : Int) = BitVec.allOnes 64 := by decide
theorem ofInt_m1 : BitVec.ofInt 64 (-1 : Int) = BitVec.allOnes 64 := by decide
theorem z78 {n : Nat} (h : n < 18446744073709551616) : (BitVec.ofInt 64 ((n : Nat) : Int) ^^^ BitVec.ofInt 64 (0 : Int)).toNat = n := by
  have : BitVec.ofInt 64 (0 : Int) = 0#64 := by decide
  rw [this, BitVec.xor_zero, q91 h]
theorem wrapU (n : Int) : IntKind.u64.wrap n = n % 18446744073709551616 := by simp [Go.IntKind.wrap, Go.IntKind.bits, Go.IntKind.signed]
theorem zig_val {n : Int} (h : i64 n) : IntKind.u64.wrap (((BitVec.ofInt 64 (IntKind.u64.wrap (IntKind.u64.wrap n * (2 : Int) ^ 1)) ^^^ BitVec.ofInt 64 (IntKind.u64.wrap (n.fdiv ((2 : Int) ^ 63)))).toNat : Nat) : Int) = ((zz n : Nat) : Int) := by
  unfold i64 at h
  unfold zz
  have e63 : n.fdiv ((2 : Int) ^ 63) = n / 9223372036854775808 := by rw [Int.fdiv_eq_ediv_of_nonneg _ (by decide)]; rfl
  rw [e63]
  by_cases h0 : 0 ≤ n
  · rw [if_pos h0]
    have a1 : IntKind.u64.wrap n = n := q3g h0 (by omega)
    have a2 : IntKind.u64.wrap (n * (2 : Int) ^ 1) = ((2 * n).toNat : Nat) := by rw [wrapU]; omega
    have a3 : IntKind.u64.wrap (n / 9223372036854775808) = 0 := by rw [wrapU]; omega
    rw [a1, a2, a3, z78 (by omega), q3g (by omega) (by omega)]
  · rw [if_neg h0]
    have a2 : IntKind.u64.wrap (IntKind.u64.wrap n * (2 : Int) ^ 1) = ((2 * n + 18446744073709551616).toNat : Nat) := by rw [wrapU, wrapU]; omega
    have a3 : IntKind.u64.wrap (n / 9223372036854775808) = 18446744073709551615 := by rw [wrapU]; omega
    rw [a2, a3, j39, j2j (by omega), q3g (by omega) (by omega)]
    omega
theorem zag_val {n : Int} (h : i64 n) : IntKind.i64.wrap (((BitVec.ofInt 64 (IntKind.i64.wrap (((zz n : Nat) : Int).fdiv ((2 : Int) ^ 1))) ^^^ BitVec.ofInt 64 (IntKind.i64.wrap ((0 : Int) - IntKind.i64.wrap (IntKind.u64.wrap (((BitVec.ofInt 64 ((zz n : Nat) : Int) &&& BitVec.ofInt 64 (1 : Int)).toNat : Nat) : Int))))).toNat : Nat) : Int) = n := by
  have hz := zz_lt h
  have e1 : ((zz n : Nat) : Int).fdiv ((2 : Int) ^ 1) = ((zz n / 2 : Nat) : Int) := by rw [Int.fdiv_eq_ediv_of_nonneg _ (by decide)]; simp
  have e2 : (BitVec.ofInt 64 ((zz n : Nat) : Int) &&& BitVec.ofInt 64 (1 : Int)).toNat = zz n % 2 := by
    rw [BitVec.toNat_and, q91 hz]
    show zz n &&& 1 = zz n % 2
    exact Nat.and_two_pow_sub_one_eq_mod (zz n) 1
  rw [e1, e2, q0u (n := ((zz n / 2 : Nat) : Int)) (by omega) (by omega), q3g (by omega) (by omega), q0u (n := ((zz n % 2 : Nat) : Int)) (by omega) (by omega), q0u (n := (0 : Int) - ((zz n % 2 : Nat) : Int)) (by omega) (by omega)]
  unfold i64 at h
  by_cases h0 : 0 ≤ n
  · have e : zz n = (2 * n).toNat := by unfold zz; rw [if_pos h0]
    have e3 : (0 : Int) - ((zz n % 2 : Nat) : Int) = 0 := by omega
    rw [e3, z78 (by omega), q0u (by omega) (by omega)]
    omega
  · have e : zz n = (-2 * n - 1).toNat := by unfold zz; rw [if_neg h0]
    have e3 : (0 : Int) - ((zz n % 2 : Nat) : Int) = -1 := by omega
    rw [e3, ofInt_m1, j2j (by omega), Go.IntKind.wrap_i64]
    omega
theorem z69 (hK : 20000 ≤ K) {n : Int} {l : List Int} (h : i64 n) (hl : l.length + 10 ≤ 4000000) : q1u.f K n l = some (l ++ encI n) := by
  unfold q1u.f
  rw [zig_val h, z1k hK (zz_lt h) hl]
def z7a (op : Int) : Bool := z4a op || (op == 13 || (op == 14 || op == 17))
def q4q (x : q3n) : List Int :=
  [x.1] ++ ((if q8z x.1 then [x.2.1] else []) ++ ((if z03 x.1 then [x.2.2.1] else []) ++ ((if z7a x.1 then [x.2.2.2.1] else []) ++
    ((if x.1 = 1 then encI x.2.2.2.2.1 else []) ++ (if x.1 = 17 then ((x.2.2.2.2.2.length : Nat) : Int) :: x.2.2.2.2.2 else [])))))
theorem z4b {a l : List Int} (h : l.length + a.length ≤ 4000000) : q2j.f K a l = some (l ++ a) := by
  unfold q2j.f
  rw [Nat.ble_eq_true_of_le h]; rfl
theorem z5l (hK : 20000 ≤ K) {l : List Int} (hl : l.length ≤ 1000) (hr : ∀ v ∈ l, 0 ≤ v ∧ v < 128) : ∀ (l2 l1 : List Int) (k : Nat) (w : List Int), l = l1 ++ l2 → l2.length < k → w.length + l2.length + 10 ≤ 4000000 →
    q3y.l0.f K k l ((l.length : Nat) : Int) ((l1.length : Nat) : Int) w = some (w ++ l2)
  | l2, l1, 0, w, h, hk, hw => by omega
  | [], l1, k + 1, w, h, hk, hw => by
    rw [q3y.l0.f]
    simp only [q2n h, cond_false, List.append_nil]
  | x :: l2, l1, k + 1, w, h, hk, hw => by
    rw [q3y.l0.f]
    have hl1 : l1.length ≤ 1000 := by rw [h] at hl; simp at hl; omega
    have hx := hr x (by rw [h]; simp)
    simp only [q2m h, ge0, q29 h, cond_true, q0b, q64 hK hx.1 hx.2 (l := w) (by simp at hw; omega), q1a (l1 := l1) (x := x) (by omega)]
    rw [z5l hK hl hr l2 (l1 ++ [x]) k (w ++ [x]) (q1j h) (by simp at hk; omega) (by simp at hw ⊢; omega)]
    simp
structure lowI (x : q3n) : Prop where
  op : 1 ≤ x.1 ∧ x.1 ≤ 17
  d : 0 ≤ x.2.1 ∧ x.2.1 < 128
  a : 0 ≤ x.2.2.1 ∧ x.2.2.1 < 128
  b : 0 ≤ x.2.2.2.1 ∧ x.2.2.2.1 < 128
  n : i64 x.2.2.2.2.1
  len : x.2.2.2.2.2.length ≤ 4
  args : ∀ v ∈ x.2.2.2.2.2, 0 ≤ v ∧ v < 128
theorem z2i.low {nc : Nat} {ar : List Int} {regs : Int} {x : q3n} (h : z2i nc ar regs x) (hr : regs ≤ 8) (hc : nc ≤ 16) (har : ar.length ≤ 24) (ha : ∀ v ∈ ar, v ≤ 4) (hn : i64 x.2.2.2.2.1) : lowI x := by
  obtain ⟨op, d, a, b, n, g⟩ := h
  refine ⟨op, ?_, ?_, ?_, hn, j0e ⟨op, d, a, b, n, g⟩ ha, ?_⟩
  · split at d
    · unfold reg at d; omega
    · omega
  · split at a
    · unfold reg at a; omega
    · omega
  · split at b
    · unfold reg at b; omega
    · split at b
      · unfold reg at b; omega
      · split at b
        · have := b.1; unfold reg at this; omega
        · omega
  · split at g
    · intro v hv; have := g v hv; unfold reg at this; omega
    · rw [g]; intro v hv; simp at hv
theorem j1l (hK : 20000 ≤ K) {op d a b n : Int} {args w : List Int} (h : lowI (op, d, a, b, n, args)) (hw : w.length + 60 ≤ 4000000) : q3y.f K op d a b n args w = some (w ++ q4q (op, d, a, b, n, args)) := by
  obtain ⟨⟨h1, h2⟩, hd, ha, hb, hn, hl, hg⟩ := h
  dsimp only at *
  unfold q3y.f q4q
  dsimp only
  have hop := q9y h1 h2
  have u : ∀ {v : Int} {l : List Int}, 0 ≤ v ∧ v < 128 → l.length + 10 ≤ 4000000 → q0d.f K (IntKind.u64.wrap v) l = some (l ++ [v]) := fun hv hl => q64 hK hv.1 hv.2 hl
  have by_ : q0n.f K (IntKind.u8.wrap op) w = some (w ++ [op]) := by rw [q9q (by omega) (by omega)]; exact q62 (by omega)
  rw [by_]
  by_cases h17 : op = 17
  · subst h17
    have e := z5l (K := K) hK (l := args) (by omega) hg args [] K (w ++ [17] ++ [d] ++ [b] ++ [((args.length : Nat) : Int)]) rfl (by omega) (by simp; omega)
    have e' : q3y.l0.f K K args ((args.length : Nat) : Int) (0 : Int) (w ++ [17] ++ [d] ++ [b] ++ [((args.length : Nat) : Int)]) = _ := e
    simp only [q6w.f, show ((17 : Int) == 1) = false from rfl, show ((17 : Int) == 15) = false from rfl, show ((17 : Int) == 2) = false from rfl, show ((17 : Int) == 3) = false from rfl, show ((17 : Int) == 4) = false from rfl, show ((17 : Int) == 5) = false from rfl, show ((17 : Int) == 6) = false from rfl, show ((17 : Int) == 7) = false from rfl, show ((17 : Int) == 8) = false from rfl, show ((17 : Int) == 9) = false from rfl, show ((17 : Int) == 10) = false from rfl, show ((17 : Int) == 11) = false from rfl, show ((17 : Int) == 12) = false from rfl, show ((17 : Int) == 13) = false from rfl, show ((17 : Int) == 14) = false from rfl, show ((17 : Int) == 16) = false from rfl, show ((17 : Int) == 17) = true from rfl, cond_true, cond_false, q0b,
      u hd (l := w ++ [17]) (by simp; omega), u hb (l := w ++ [17] ++ [d]) (by simp; omega), u (v := ((args.length : Nat) : Int)) (by omega) (l := w ++ [17] ++ [d] ++ [b]) (by simp; omega), e']
    simp [q8z, z03, z4a, z7a]
  · rcases hop with rfl | rfl | rfl | rfl | rfl | rfl | rfl | rfl | rfl | rfl | rfl | rfl | rfl | rfl | rfl | rfl | rfl <;> first | exact absurd rfl h17 | skip
    case inl =>
      have i := z69 (K := K) hK hn (l := w ++ [1] ++ [d]) (by simp; omega)
      simp only [List.append_assoc, List.cons_append, List.nil_append] at i
      simp [q6w.f, u hd (l := w ++ [1]) (by simp; omega), i, q8z, z03, z4a, z7a]
    all_goals
      first
      | (simp [q6w.f, u hd (l := w ++ [_]) (by simp; omega), u ha (l := w ++ [_, d]) (by simp; omega), u hb (l := w ++ [_, d, a]) (by simp; omega), u hb (l := w ++ [_, d]) (by simp; omega), u ha (l := w ++ [_]) (by simp; omega), u hb (l := w ++ [_, a]) (by simp; omega), q8z, z03, z4a, z7a]; done)
end Go.Proofs.YtdjkdmjdcdljmaaGreatDoor.AU
namespace Go.Proofs.YtdjkdmjdcdljmaaGreatDoor.AU
open Go.Proofs.YtdjkdmjdcdljmaaGreatDoorY
set_option maxRecDepth 100000
set_option maxHeartbeats 4000000
variable {K : Nat}
theorem q6b (n : Nat) : (encU n).length ≤ 10 := (j2b 9 n).2
theorem q7z (n : Int) : (encI n).length ≤ 10 := q6b _
theorem z0m {x : q3n} (h : lowI x) : (q4q x).length ≤ 14 := by
  obtain ⟨⟨h1, h2⟩, hd, ha, hb, hn, hl, hg⟩ := h
  have hop := q9y h1 h2
  have := q7z x.2.2.2.2.1
  unfold q4q
  rcases hop with h | h | h | h | h | h | h | h | h | h | h | h | h | h | h | h | h <;> rw [h] <;> simp [q8z, z03, z4a, z7a] <;> omega
def z2o (e : LEnd) : List Int := [e.1] ++ ((if e.1 = 1 then [] else [e.2.1]) ++ ((if e.1 = 3 then [] else [e.2.2.1]) ++ (if e.1 = 2 then [e.2.2.2] else [])))
structure lowE (e : LEnd) : Prop where
  op : 1 ≤ e.1 ∧ e.1 ≤ 3
  a : 0 ≤ e.2.1 ∧ e.2.1 < 128
  t : 0 ≤ e.2.2.1 ∧ e.2.2.1 < 128
  e : 0 ≤ e.2.2.2 ∧ e.2.2.2 < 128
theorem z45.low {regs : Int} {nb : Nat} {e : LEnd} (h : z45 regs nb e) (hr : regs ≤ 8) (hb : nb ≤ 12) : lowE e := by
  obtain ⟨op, a, t, el⟩ := h
  refine ⟨op, ?_, ?_, ?_⟩
  · split at a
    · omega
    · unfold reg at a; omega
  · split at t
    · omega
    · unfold reg at t; omega
  · split at el
    · unfold reg at el; omega
    · omega
theorem j3a (e : LEnd) : (z2o e).length ≤ 4 := by
  unfold z2o
  by_cases h1 : e.1 = 1 <;> by_cases h3 : e.1 = 3 <;> by_cases h2 : e.1 = 2 <;> simp [h1, h2, h3]
theorem j3j (hK : 20000 ≤ K) {o a t e : Int} {w : List Int} (h : lowE (o, a, t, e)) (hw : w.length + 60 ≤ 4000000) : q7u.f K o a t e w = some (w ++ z2o (o, a, t, e)) := by
  obtain ⟨⟨h1, h2⟩, hA, ht, he⟩ := h
  dsimp only at *
  unfold q7u.f z2o
  have u : ∀ {v : Int} {l : List Int}, 0 ≤ v ∧ v < 128 → l.length + 10 ≤ 4000000 → q0d.f K (IntKind.u64.wrap v) l = some (l ++ [v]) := fun hv hl => q64 hK hv.1 hv.2 hl
  have by_ : q0n.f K (IntKind.u8.wrap o) w = some (w ++ [o]) := by rw [q9q (by omega) (by omega)]; exact q62 (by omega)
  rw [by_]
  have : o = 1 ∨ o = 2 ∨ o = 3 := by omega
  rcases this with rfl | rfl | rfl
  · simp [u ht (l := w ++ [1]) (by simp; omega)]
  · simp [u hA (l := w ++ [2]) (by simp; omega), u ht (l := w ++ [2, a]) (by simp; omega), u he (l := w ++ [2, a, t]) (by simp; omega)]
  · simp [u hA (l := w ++ [3]) (by simp; omega)]
def q5k (b : q1m) : List Int := ((b.1.length : Nat) : Int) :: (b.1.flatMap q4q ++ z2o b.2)
structure lowB (b : q1m) : Prop where
  len : b.1.length ≤ 12
  insns : ∀ x ∈ b.1, lowI x
  fin : lowE b.2
theorem q4v {α : Type} {f : α → List Int} {c : Nat} : ∀ {l : List α}, (∀ x ∈ l, (f x).length ≤ c) → (l.flatMap f).length ≤ c * l.length
  | [], _ => by simp
  | x :: l, h => by
    have h1 := h x (by simp)
    have h2 := q4v (l := l) fun y hy => h y (by simp [hy])
    simp only [List.flatMap_cons, List.length_append, List.length_cons, Nat.mul_add]
    omega
theorem z2e {b : q1m} (h : lowB b) : (q5k b).length ≤ 173 := by
  have h1 := q4v (f := q4q) (c := 14) fun x hx => z0m (h.insns x hx)
  have h2 := j3a b.2
  have h3 := h.len
  have h4 : 14 * b.1.length ≤ 14 * 12 := Nat.mul_le_mul_left _ h3
  simp only [q5k, List.length_cons, List.length_append]
  omega
theorem z6i (hK : 20000 ≤ K) {l : List q3n} (hl : l.length ≤ 12) (hr : ∀ x ∈ l, lowI x) : ∀ (l2 l1 : List q3n) (k : Nat) (w : List Int), l = l1 ++ l2 → l2.length < k → w.length + 14 * l2.length + 100 ≤ 4000000 →
    q2v.l1.f K k l ((l.length : Nat) : Int) ((l1.length : Nat) : Int) w = some (w ++ l2.flatMap q4q)
  | l2, l1, 0, w, h, hk, hw => by omega
  | [], l1, k + 1, w, h, hk, hw => by
    rw [q2v.l1.f]
    simp only [q2n h, cond_false, List.flatMap_nil, List.append_nil]
  | x :: l2, l1, k + 1, w, h, hk, hw => by
    rw [q2v.l1.f]
    have hl1 : l1.length ≤ 12 := by rw [h] at hl; simp at hl; omega
    have hx := hr x (by rw [h]; simp)
    have hlen := z0m hx
    simp only [List.length_cons] at hw hk
    simp only [q2m h, ge0, q29 h, cond_true, q0b, j1l hK (op := x.1) (d := x.2.1) (a := x.2.2.1) (b := x.2.2.2.1) (n := x.2.2.2.2.1) (args := x.2.2.2.2.2) hx (w := w) (by omega), q1a (l1 := l1) (x := x) (by omega)]
    refine (z6i hK hl hr l2 (l1 ++ [x]) k _ (q1j h) (by omega) ?_).trans ?_
    · simp only [List.length_append]
      have : (q4q (x.1, x.2.1, x.2.2.1, x.2.2.2.1, x.2.2.2.2.1, x.2.2.2.2.2)).length ≤ 14 := hlen
      omega
    · simp only [List.flatMap_cons, List.append_assoc]
theorem z6a (hK : 20000 ≤ K) {l : List q1m} (hl : l.length ≤ 12) (hr : ∀ b ∈ l, lowB b) : ∀ (l2 l1 : List q1m) (k : Nat) (w : List Int), l = l1 ++ l2 → l2.length < k → w.length + 173 * l2.length + 400 ≤ 4000000 →
    q2v.l0.f K k l ((l.length : Nat) : Int) ((l1.length : Nat) : Int) w = some (w ++ l2.flatMap q5k)
  | l2, l1, 0, w, h, hk, hw => by omega
  | [], l1, k + 1, w, h, hk, hw => by
    rw [q2v.l0.f]
    simp only [q2n h, cond_false, List.flatMap_nil, List.append_nil]
  | x :: l2, l1, k + 1, w, h, hk, hw => by
    rw [q2v.l0.f]
    have hl1 : l1.length ≤ 12 := by rw [h] at hl; simp at hl; omega
    have hx := hr x (by rw [h]; simp)
    have hlen := z2e hx
    have h12 := hx.len
    simp only [List.length_cons] at hw hk
    have g1 : q2v.l1.f K K x.1 ((x.1.length : Nat) : Int) (0 : Int) (w ++ [((x.1.length : Nat) : Int)]) = some (w ++ [((x.1.length : Nat) : Int)] ++ x.1.flatMap q4q) := z6i hK h12 hx.insns x.1 [] K _ rfl (by omega) (by simp only [List.length_append, List.length_cons, List.length_nil]; omega)
    have hfl := q4v (f := q4q) (c := 14) fun y hy => z0m (hx.insns y hy)
    have h4 : 14 * x.1.length ≤ 14 * 12 := Nat.mul_le_mul_left _ h12
    have g2 := j3j (K := K) hK (o := x.2.1) (a := x.2.2.1) (t := x.2.2.2.1) (e := x.2.2.2.2) (w := w ++ [((x.1.length : Nat) : Int)] ++ x.1.flatMap q4q) hx.fin (by simp only [List.length_append, List.length_cons, List.length_nil]; omega)
    simp only [q2m h, ge0, q29 h, cond_true, q0b, q64 hK (n := ((x.1.length : Nat) : Int)) (l := w) (by omega) (by omega) (by omega), g1, g2, q1a (l1 := l1) (x := x) (by omega)]
    have he : w ++ [((x.1.length : Nat) : Int)] ++ x.1.flatMap q4q ++ z2o (x.2.1, x.2.2.1, x.2.2.2.1, x.2.2.2.2) = w ++ q5k x := by simp [q5k]
    rw [he]
    refine (z6a hK hl hr l2 (l1 ++ [x]) k _ (q1j h) (by omega) ?_).trans ?_
    · simp only [List.length_append]; omega
    · simp only [List.flatMap_cons, List.append_assoc]
def q47 (s : ByteArray) : List Int := ((s.size : Nat) : Int) :: bytesOf s
def q6r (f : q0x) : List Int := q47 f.1 ++ (f.2.1 :: f.2.2.1 :: ((f.2.2.2.length : Nat) : Int) :: f.2.2.2.flatMap q5k)
structure lowF (f : q0x) : Prop where
  name : f.1.size ≤ 12
  arity : 0 ≤ f.2.1 ∧ f.2.1 ≤ 4
  regs : 0 ≤ f.2.2.1 ∧ f.2.2.1 ≤ 8
  len : f.2.2.2.length ≤ 12
  blocks : ∀ b ∈ f.2.2.2, lowB b
theorem z0l {f : q0x} (h : lowF f) : (q6r f).length ≤ 2092 := by
  have h1 := q4v (f := q5k) (c := 173) fun x hx => z2e (h.blocks x hx)
  have h3 := h.len
  have h4 : 173 * f.2.2.2.length ≤ 173 * 12 := Nat.mul_le_mul_left _ h3
  have h5 := h.name
  simp only [q6r, q47, List.length_cons, List.length_append, q4f]
  omega
theorem z3r (hK : 20000 ≤ K) {s : ByteArray} {w : List Int} (hs : s.size ≤ 12) (hw : w.length + 60 ≤ 4000000) : q1o.f K (bytesOf s) w = some (w ++ q47 s) := by
  unfold q1o.f
  have hb := q4f s
  rw [q64 hK (n := (((bytesOf s).length : Nat) : Int)) (by omega) (by omega) (by omega), q0b, z4b (by simp; omega), hb]
  simp [q47]
theorem j1j (hK : 20000 ≤ K) {f : q0x} {w : List Int} (h : lowF f) (hw : w.length + 3000 ≤ 4000000) : q2v.f K f.1 f.2.1 f.2.2.1 f.2.2.2 w = some (w ++ q6r f) := by
  obtain ⟨hn, ha, hr, hl, hb⟩ := h
  unfold q2v.f
  have hbl := q4f f.1
  have e : Nat.ble f.1.size 4000000 = true := Nat.ble_eq_true_of_le (by omega)
  have hlen : (q47 f.1).length ≤ 13 := by simp [q47, hbl]; omega
  have u : ∀ {v : Int} {l : List Int}, 0 ≤ v ∧ v < 128 → l.length + 10 ≤ 4000000 → q0d.f K (IntKind.u64.wrap v) l = some (l ++ [v]) := fun hv hl => q64 hK hv.1 hv.2 hl
  have g : q2v.l0.f K K f.2.2.2 ((f.2.2.2.length : Nat) : Int) (0 : Int) (w ++ q47 f.1 ++ [f.2.1] ++ [f.2.2.1] ++ [((f.2.2.2.length : Nat) : Int)]) = _ := z6a hK hl hb f.2.2.2 [] K _ rfl (by omega) (by
    have h4 : 173 * f.2.2.2.length ≤ 173 * 12 := Nat.mul_le_mul_left _ hl
    simp only [List.length_append, List.length_cons, List.length_nil]; omega)
  simp only [e, cond_true, z3r hK hn (w := w) (by omega), q0b, u (v := f.2.1) ⟨ha.1, by omega⟩ (l := w ++ q47 f.1) (by simp only [List.length_append]; omega),
    u (v := f.2.2.1) ⟨hr.1, by omega⟩ (l := w ++ q47 f.1 ++ [f.2.1]) (by simp only [List.length_append, List.length_cons, List.length_nil]; omega),
    u (v := ((f.2.2.2.length : Nat) : Int)) ⟨by omega, by omega⟩ (l := w ++ q47 f.1 ++ [f.2.1] ++ [f.2.2.1]) (by simp only [List.length_append, List.length_cons, List.length_nil]; omega), g]
  simp [q6r]
def q5g (m : q0g) : List Int := q47 m.1 ++ [m.2]
def q6a (cells : List Int) (fs : List q0x) (is : List q0g) : List Int :=
  [65, 86, 1] ++ (((cells.length : Nat) : Int) :: (cells.flatMap encI ++ (((fs.length : Nat) : Int) :: (fs.flatMap q6r ++ (((is.length : Nat) : Int) :: is.flatMap q5g)))))
structure lowM (cells : List Int) (fs : List q0x) (is : List q0g) : Prop where
  clen : cells.length ≤ 16
  cells : ∀ c ∈ cells, i64 c
  len : fs.length + is.length ≤ 24
  funcs : ∀ f ∈ fs, lowF f
  imports : ∀ m ∈ is, m.1.size ≤ 12 ∧ 0 ≤ m.2 ∧ m.2 ≤ 4
theorem j2i (hK : 20000 ≤ K) {l : List Int} (hl : l.length ≤ 16) (hr : ∀ c ∈ l, i64 c) : ∀ (l2 l1 : List Int) (k : Nat) (w : List Int), l = l1 ++ l2 → l2.length < k → w.length + 10 * l2.length + 100 ≤ 4000000 →
    q2o.l0.f K k l ((l.length : Nat) : Int) ((l1.length : Nat) : Int) w = some (w ++ l2.flatMap encI)
  | l2, l1, 0, w, h, hk, hw => by omega
  | [], l1, k + 1, w, h, hk, hw => by
    rw [q2o.l0.f]
    simp only [q2n h, cond_false, List.flatMap_nil, List.append_nil]
  | x :: l2, l1, k + 1, w, h, hk, hw => by
    rw [q2o.l0.f]
    have hl1 : l1.length ≤ 16 := by rw [h] at hl; simp at hl; omega
    have hx := hr x (by rw [h]; simp)
    have hlen := q7z x
    simp only [List.length_cons] at hw hk
    simp only [q2m h, ge0, q29 h, cond_true, q0b, z69 hK hx (l := w) (by omega), q1a (l1 := l1) (x := x) (by omega)]
    refine (j2i hK hl hr l2 (l1 ++ [x]) k _ (q1j h) (by omega) ?_).trans ?_
    · simp only [List.length_append]; omega
    · simp only [List.flatMap_cons, List.append_assoc]
theorem j1u (hK : 20000 ≤ K) {l : List q0x} (hl : l.length ≤ 24) (hr : ∀ f ∈ l, lowF f) : ∀ (l2 l1 : List q0x) (k : Nat) (w : List Int), l = l1 ++ l2 → l2.length < k → w.length + 2092 * l2.length + 3000 ≤ 4000000 →
    q2o.l1.f K k l ((l.length : Nat) : Int) ((l1.length : Nat) : Int) w = some (w ++ l2.flatMap q6r)
  | l2, l1, 0, w, h, hk, hw => by omega
  | [], l1, k + 1, w, h, hk, hw => by
    rw [q2o.l1.f]
    simp only [q2n h, cond_false, List.flatMap_nil, List.append_nil]
  | x :: l2, l1, k + 1, w, h, hk, hw => by
    rw [q2o.l1.f]
    have hl1 : l1.length ≤ 24 := by rw [h] at hl; simp at hl; omega
    have hx := hr x (by rw [h]; simp)
    have hlen := z0l hx
    simp only [List.length_cons] at hw hk
    simp only [q2m h, ge0, q29 h, cond_true, q0b, j1j hK hx (w := w) (by omega), q1a (l1 := l1) (x := x) (by omega)]
    refine (j1u hK hl hr l2 (l1 ++ [x]) k _ (q1j h) (by omega) ?_).trans ?_
    · simp only [List.length_append]; omega
    · simp only [List.flatMap_cons, List.append_assoc]
theorem q8o {m : q0g} (h : m.1.size ≤ 12) : (q5g m).length ≤ 14 := by
  simp only [q5g, q47, List.length_append, List.length_cons, List.length_nil, q4f]; omega
theorem j1y (hK : 20000 ≤ K) {l : List q0g} (hl : l.length ≤ 24) (hr : ∀ m ∈ l, m.1.size ≤ 12 ∧ 0 ≤ m.2 ∧ m.2 ≤ 4) : ∀ (l2 l1 : List q0g) (k : Nat) (w : List Int), l = l1 ++ l2 → l2.length < k → w.length + 14 * l2.length + 100 ≤ 4000000 →
    q2o.l2.f K k l ((l.length : Nat) : Int) ((l1.length : Nat) : Int) w = some (w ++ l2.flatMap q5g)
  | l2, l1, 0, w, h, hk, hw => by omega
  | [], l1, k + 1, w, h, hk, hw => by
    rw [q2o.l2.f]
    simp only [q2n h, cond_false, List.flatMap_nil, List.append_nil]
  | x :: l2, l1, k + 1, w, h, hk, hw => by
    rw [q2o.l2.f]
    have hl1 : l1.length ≤ 24 := by rw [h] at hl; simp at hl; omega
    obtain ⟨q1, q2, q3⟩ := hr x (by rw [h]; simp)
    have e : Nat.ble x.1.size 4000000 = true := Nat.ble_eq_true_of_le (by omega)
    have hlen := q8o (m := x) q1
    have hlen2 : (q47 x.1).length ≤ 13 := by simp [q47, q4f]; omega
    simp only [List.length_cons] at hw hk
    simp only [q2m h, ge0, q29 h, cond_true, q0b, e, z3r hK q1 (w := w) (by omega), q64 hK q2 (n := x.2) (by omega) (l := w ++ q47 x.1) (by simp only [List.length_append]; omega), q1a (l1 := l1) (x := x) (by omega)]
    refine (j1y hK hl hr l2 (l1 ++ [x]) k _ (q1j h) (by omega) ?_).trans ?_
    · simp only [List.length_append, List.length_cons, List.length_nil]; omega
    · simp [q5g]
theorem z1w {cells : List Int} {fs : List q0x} {is : List q0g} (h : lowM cells fs is) : (q6a cells fs is).length ≤ 60000 := by
  have a1 := q4v (f := encI) (c := 10) (l := cells) fun x hx => q7z x
  have a2 := q4v (f := q6r) (c := 2092) fun x hx => z0l (h.funcs x hx)
  have a3 := q4v (f := q5g) (c := 14) (l := is) fun x hx => q8o (h.imports x hx).1
  have h1 := h.clen
  have h2 := h.len
  simp only [q6a, List.length_append, List.length_cons, List.length_nil]
  omega
theorem write_val (hK : 20000 ≤ K) {cells : List Int} {fs : List q0x} {is : List q0g} (hwf : WF cells fs is) (h : lowM cells fs is) : q2o.f K cells fs is = some (q6a cells fs is, Err.nil) := by
  unfold q2o.f
  have a1 := q4v (f := encI) (c := 10) (l := cells) fun x hx => q7z x
  have a2 := q4v (f := q6r) (c := 2092) fun x hx => z0l (h.funcs x hx)
  have a3 := q4v (f := q5g) (c := 14) (l := is) fun x hx => q8o (h.imports x hx).1
  have hml := z1w h
  obtain ⟨h1, h2, h3, h4, h5⟩ := h
  have u : ∀ {v : Int} {l : List Int}, 0 ≤ v ∧ v < 128 → l.length + 10 ≤ 4000000 → q0d.f K (IntKind.u64.wrap v) l = some (l ++ [v]) := fun hv hl => q64 hK hv.1 hv.2 hl
  have g0 : q2o.l0.f K K cells ((cells.length : Nat) : Int) (0 : Int) ([] ++ [65, 86, 1] ++ [((cells.length : Nat) : Int)]) = _ := j2i hK h1 h2 cells [] K _ rfl (by omega) (by simp only [List.length_append, List.length_cons, List.length_nil]; omega)
  have g1 : q2o.l1.f K K fs ((fs.length : Nat) : Int) (0 : Int) ([] ++ [65, 86, 1] ++ [((cells.length : Nat) : Int)] ++ cells.flatMap encI ++ [((fs.length : Nat) : Int)]) = _ := j1u hK (by omega) h4 fs [] K _ rfl (by omega) (by simp only [List.length_append, List.length_cons, List.length_nil]; omega)
  have g2 : q2o.l2.f K K is ((is.length : Nat) : Int) (0 : Int) ([] ++ [65, 86, 1] ++ [((cells.length : Nat) : Int)] ++ cells.flatMap encI ++ [((fs.length : Nat) : Int)] ++ fs.flatMap q6r ++ [((is.length : Nat) : Int)]) = _ := j1y hK (by omega) h5 is [] K _ rfl (by omega) (by simp only [List.length_append, List.length_cons, List.length_nil]; omega)
  simp only [z5e hK hwf, q0b, Err.isNil, Bool.not_true, cond_true, cond_false, q4b.f, z4b (K := K) (a := [65, 86, 1]) (l := []) (by simp),
    u (v := ((cells.length : Nat) : Int)) ⟨by omega, by omega⟩ (l := [] ++ [65, 86, 1]) (by simp), g0,
    u (v := ((fs.length : Nat) : Int)) ⟨by omega, by omega⟩ (l := [] ++ [65, 86, 1] ++ [((cells.length : Nat) : Int)] ++ cells.flatMap encI) (by simp only [List.length_append, List.length_cons, List.length_nil]; omega), g1,
    u (v := ((is.length : Nat) : Int)) ⟨by omega, by omega⟩ (l := [] ++ [65, 86, 1] ++ [((cells.length : Nat) : Int)] ++ cells.flatMap encI ++ [((fs.length : Nat) : Int)] ++ fs.flatMap q6r) (by simp only [List.length_append, List.length_cons, List.length_nil]; omega), g2]
  have e : [] ++ [65, 86, 1] ++ [((cells.length : Nat) : Int)] ++ cells.flatMap encI ++ [((fs.length : Nat) : Int)] ++ fs.flatMap q6r ++ [((is.length : Nat) : Int)] ++ is.flatMap q5g = q6a cells fs is := by simp [q6a]
  rw [e]
  unfold q1s.f q0j.f
  rw [Nat.ble_eq_true_of_le (by omega)]
  rfl
end Go.Proofs.YtdjkdmjdcdljmaaGreatDoor.AU
namespace Go.Proofs.YtdjkdmjdcdljmaaGreatDoor.AU
open Go.Proofs.YtdjkdmjdcdljmaaGreatDoorY
set_option maxRecDepth 100000
set_option maxHeartbeats 4000000
variable {K : Nat}
noncomputable def optT {R : Type} (c : Bool) (K : Nat) (most : Int) (e : Err) (l : List Int) (p : Int) (f : Int → Err → Int → Option R) : Option R := bif c then (q0i.f K most e l p).bind fun t => f t.1 t.2.1 t.2.2 else f 0 e p
theorem j36 (e : Err) (l : List Int) (p : Int) : q2s.f K e l p = (q2z.f K 17 e l p).bind fun t => (q6w.f K t.1).bind fun c => optT c.1 K 7 t.2.1 l t.2.2 fun d e p => optT c.2.1 K 7 e l p fun a e p => optT c.2.2.1 K c.2.2.2.1 e l p fun b e p =>
    bif t.1 == 1 then (q1r.f K e l p).bind fun s => some (t.1, d, a, b, s.1, [], s.2.1, s.2.2) else bif t.1 == 17 then (q0i.f K 4 e l p).bind fun u => (q2s.l0.f K K u.1 0 u.2.1 l u.2.2 []).bind fun w => some (t.1, d, a, b, 0, w.2.2, w.1, w.2.1) else some (t.1, d, a, b, 0, [], e, p) := by
  rfl
def z1a (op : Int) : Int := if op = 13 ∨ op = 14 then 15 else if op = 17 then 23 else 7
theorem j31 {op : Int} (h1 : 1 ≤ op) (h2 : op ≤ 17) : q6w.f K op = some (q8z op, z03 op, z7a op, z1a op, true) := by
  rcases q9y h1 h2 with rfl | rfl | rfl | rfl | rfl | rfl | rfl | rfl | rfl | rfl | rfl | rfl | rfl | rfl | rfl | rfl | rfl <;> simp [q6w.f, q8z, z03, z4a, z7a, z1a]
structure z90 (x : q3n) : Prop where
  op : 1 ≤ x.1 ∧ x.1 ≤ 17
  d : 0 ≤ x.2.1 ∧ x.2.1 ≤ 7 ∧ (q8z x.1 = false → x.2.1 = 0)
  a : 0 ≤ x.2.2.1 ∧ x.2.2.1 ≤ 7 ∧ (z03 x.1 = false → x.2.2.1 = 0)
  b : 0 ≤ x.2.2.2.1 ∧ x.2.2.2.1 ≤ z1a x.1 ∧ (z7a x.1 = false → x.2.2.2.1 = 0)
  n : i64 x.2.2.2.2.1 ∧ (x.1 ≠ 1 → x.2.2.2.2.1 = 0)
  len : x.2.2.2.2.2.length ≤ 4 ∧ (x.1 ≠ 17 → x.2.2.2.2.2 = [])
  args : ∀ v ∈ x.2.2.2.2.2, 0 ≤ v ∧ v ≤ 7
end Go.Proofs.YtdjkdmjdcdljmaaGreatDoor.AU
namespace Go.Proofs.YtdjkdmjdcdljmaaGreatDoor.AU
open Go.Proofs.YtdjkdmjdcdljmaaGreatDoorY
set_option maxRecDepth 100000
set_option maxHeartbeats 4000000
variable {K : Nat}
structure tightE (e : LEnd) : Prop where
  op : 1 ≤ e.1 ∧ e.1 ≤ 3
  a : 0 ≤ e.2.1 ∧ e.2.1 ≤ 7 ∧ (e.1 = 1 → e.2.1 = 0)
  t : 0 ≤ e.2.2.1 ∧ e.2.2.1 ≤ 11 ∧ (e.1 = 3 → e.2.2.1 = 0)
  e : 0 ≤ e.2.2.2 ∧ e.2.2.2 ≤ 11 ∧ (e.1 ≠ 2 → e.2.2.2 = 0)
structure j0b (b : q1m) : Prop where
  len : b.1.length ≤ 12
  insns : ∀ x ∈ b.1, z90 x
  fin : tightE b.2
end Go.Proofs.YtdjkdmjdcdljmaaGreatDoor.AU
namespace Go.Proofs.YtdjkdmjdcdljmaaGreatDoor.AU
open Go.Proofs.YtdjkdmjdcdljmaaGreatDoorY
set_option maxRecDepth 100000
set_option maxHeartbeats 4000000
variable {K : Nat}
def wide (cells : List Int) (fs : List q0x) : Prop := (∀ c ∈ cells, i64 c) ∧ ∀ f ∈ fs, ∀ b ∈ f.2.2.2, ∀ x ∈ b.1, i64 x.2.2.2.2.1
theorem ar_len {fs : List q0x} {is : List q0g} : (arities fs is).length = fs.length + is.length := by simp
theorem WF.low {cells : List Int} {fs : List q0x} {is : List q0g} (h : WF cells fs is) (hw : wide cells fs) : lowM cells fs is := by
  refine ⟨h.ncells, hw.1, h.count, fun f hf => ?_, fun m hm => ?_⟩
  · obtain ⟨i, hi⟩ := List.mem_iff_getElem?.1 hf
    obtain ⟨ok, _⟩ := h.funcs i f hi
    have hr := ok.regs
    refine ⟨ok.name.2.1, ok.arity, ⟨by omega, by omega⟩, ok.blocks.2, fun b hb => ?_⟩
    have okb := ok.each b hb
    exact ⟨okb.len, fun x hx => (okb.insns x hx).low hr.2.1 h.ncells (by rw [ar_len]; exact h.count) h.ar_le (hw.2 f hf b hb x hx), okb.fin.low hr.2.1 ok.blocks.2⟩
  · obtain ⟨i, hi⟩ := List.mem_iff_getElem?.1 hm
    have ok := h.imports i m hi
    exact ⟨ok.name.2.1, ok.arity⟩
end Go.Proofs.YtdjkdmjdcdljmaaGreatDoor.AU
namespace Go.Proofs.YtdjkdmjdcdljmaaGreatDoor.AU
open Go.Proofs.YtdjkdmjdcdljmaaGreatDoorY
set_option maxRecDepth 1000000
set_option maxHeartbeats 4000000
theorem runs_n (n : Nat) : q4i.f (n + 200) = some true := by kernel_rfl
theorem runs_val {K : Nat} (hK : 20000 ≤ K) : q4i.f K = some true := by
  obtain ⟨n, rfl⟩ : ∃ n, K = n + 200 := ⟨K - 200, by omega⟩
  exact runs_n n
end Go.Proofs.YtdjkdmjdcdljmaaGreatDoor.AU
