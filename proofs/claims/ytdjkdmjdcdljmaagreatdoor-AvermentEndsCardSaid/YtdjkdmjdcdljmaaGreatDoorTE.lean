/- The law AvermentEnds, in parts: this text is packed by program (names shortened). No condition. -/
import Derived.Test.YtdjkdmjdcdljmaaGreatDoorTD
import Derived.Test.YtdjkdmjdcdljmaaGreatDoorTC
import Derived.KernelRfl
set_option linter.unusedVariables false
set_option linter.unusedSimpArgs false
set_option linter.unusedSectionVars false
namespace Go.Proofs.YtdjkdmjdcdljmaaGreatDoor.AU
open Go.Proofs.YtdjkdmjdcdljmaaGreatDoorY
noncomputable section
set_option maxRecDepth 1000000
set_option maxHeartbeats 4000000
namespace q4n
noncomputable def sig : Sig := ⟨.ty .err, [], .ty (.slice yI), []⟩
noncomputable def l0.f : Nat → Err → List Int → Option (List Int)
  | 0, _, _ => none
  | k + 1, .at p e, acc => bif (acc.length + [p].length).ble 4000000 then l0.f k e (acc ++ [p]) else none
  | _ + 1, _, acc => some acc
noncomputable def CP (α : Type) : q60 α := z89 3 askCt q5i
theorem j0c {α : Type} : q6b M 0 (CP α) := z0u (askCt_ok rfl rfl rfl) q4s
abbrev h : SSh := ⟨[0, 3, 4], .cons (.ty .err) (.cons (.own 0) (.ptr 1 0)), [.list 3 yI [], .cells 203 0 (.ty (.ptr yplaced))]⟩
abbrev x : SSh := ⟨[3], .own 0, [.list 3 yI []]⟩
noncomputable def F (k : Nat) (y : h.I) : Option (List Int) := l0.f k y.1.1 y.2.1
noncomputable def cv (y : h.I) (r : List Int) : x.I := ((), r, ())
theorem hs (k : Nat) (y : h.I) : exec M q3t (eqBy M.P) q3s q3u (CP x.I) 20 (q0q Tryz.f31 0) (Kl 0 h (q2d (F k) cv) (j1z 0 20 0 x)) (h.enc 20 y) = q2d (F (k + 1)) cv y := by
  obtain ⟨⟨e, u⟩, acc, o, v⟩ := y
  rw [q0a]
  cases e with
  | nil => kernel_rfl
  | no n => kernel_rfl
  | «at» p e =>
    rw [F, l0.f]
    simp only [q5e, none_bind]
    kernel_rfl
noncomputable def l0.b (K : Nat) : Lp M 0 :=
  { key := 3, c := q0q Tryz.f31 0, hk := by kernel_rfl, lp := fun α => lpX 0 20 0 h x (F K) cv, ok := fun α => lpX_okS q33 mxd q31 j0c (noL (by kernel_rfl)) (Nat.zero_le _) (Nat.zero_le _) (fun _ => rfl) hs }
noncomputable def f (K : Nat) (a0 : Err) : Option (List Int) := l0.f K a0 []
noncomputable def e (K : Nat) : En M :=
  { n := 31, g := sig, R := List Int, F := fun x => f K x.1, cv := fun x r => (r, ()), ok := by rfl, fn := Tryz.f31, hf := Tryz.func31, hname := by kernel_rfl, hb := by rfl,
    rets := z0w (C := q3t) (LP := z24 sig.Ou [l0.b K]) (RF := q3u) (CP := q5i) q33 mxd q31 q4s (z0i (by kernel_rfl)) (Nat.zero_le _) Tryz.func31 (by kernel_rfl) (fun x => by
      rw [q0a]
      kernel_rfl) }
end q4n
end
end Go.Proofs.YtdjkdmjdcdljmaaGreatDoor.AU
namespace Go.Proofs.YtdjkdmjdcdljmaaGreatDoor.AU
open Go.Proofs.YtdjkdmjdcdljmaaGreatDoorY
noncomputable section
set_option maxRecDepth 1000000
set_option maxHeartbeats 4000000
namespace ir_Copy
noncomputable def X (K : Nat) : Fx M 0 := { hmx := mxd, nt := 29, cs := [q0g.e K, q0c.e K, q8h.e K] }
noncomputable def l0.f (K : Nat) : Nat → List q0v → Int → Int → List q0v → Option (List q0v)
  | 0, _, _, _, _ => none
  | k + 1, a0, a1, a2, a7 => bif decide (a2 < a1) then bif decide ((0 : Int) ≤ a2) && true then a0[a2.toNat]?.bind fun t => (q8h.f K t.2.2.2).bind fun t_1 => bif (a7.length + [(t.1, t.2.1, t.2.2.1, t_1)].length).ble (4000000 : Nat) then l0.f K k a0 a1 (IntKind.i64.wrap (a2 + (1 : Int))) (a7 ++ [(t.1, t.2.1, t.2.2.1, t_1)]) else none else none else some a7
noncomputable def l0.b (K : Nat) : Lp M 0 := q2i (X K) 3 29 0 (q0q Tryz.f80 0) ⟨[2, 3, 14, 15, 16], sh3c, hs3a⟩ ⟨[2, 3], sh1c, hs3a⟩ K [] (fun k x => l0.f K k x.1.2.2.1 x.1.2.2.2.1 x.1.2.2.2.2 x.2.2.2.2.2.2.2.1) (fun x r => (((), ()), ((), (), ()), ((), (), ()), x.2.2.2.1, x.2.2.2.2.1, x.2.2.2.2.2.1, x.2.2.2.2.2.2.1, r, x.2.2.2.2.2.2.2.2)) fun k x => by
  rw [q0a, l0.f]
  try simp only [el]
  kernel_rfl
noncomputable def f (K : Nat) (a0 : List Int) (a1 : List q0v) (a2 : List q0i) : Option (List Int × List q0v × List q0i) := (q0g.f K a0).bind fun t => (q0c.f K a2).bind fun t_1 => (l0.f K K a1 (↑a1.length : Int) (0 : Int) []).bind fun t_2 => some (t, t_2, t_1)
noncomputable def e (K : Nat) : En M := fnE (X K) 80 Tryz.func80 ⟨sh13, [], sh13, []⟩ [l0.b K] (fun x => f K x.1.1 x.1.2.1 x.1.2.2) (fun x r => ((r.1, r.2.1, r.2.2), ())) fun x => by
  rw [q0a, f]
  try simp only [el]
  kernel_rfl
end ir_Copy
namespace q9t
noncomputable def X (K : Nat) : Fx M 0 := { hmx := mxd, nt := 29, cs := [q0g.e K, q0c.e K, q8h.e K] }
noncomputable def l0.f (K : Nat) : Nat → List q0v → Int → Int → List q0v → Option (List q0v)
  | 0, _, _, _, _ => none
  | k + 1, a0, a1, a2, a7 => bif decide (a2 < a1) then bif decide ((0 : Int) ≤ a2) && true then a0[a2.toNat]?.bind fun t => (q8h.f K t.2.2.2).bind fun t_1 => bif (a7.length + [(t.1, t.2.1, t.2.2.1, t_1)].length).ble (4000000 : Nat) then l0.f K k a0 a1 (IntKind.i64.wrap (a2 + (1 : Int))) (a7 ++ [(t.1, t.2.1, t.2.2.1, t_1)]) else none else none else some a7
noncomputable def l0.b (K : Nat) : Lp M 0 := q2i (X K) 3 29 0 (q0q Tryz.f80 0) ⟨[2, 3, 14, 15, 16], sh3c, hs3a⟩ ⟨[2, 3], sh1c, hs3a⟩ K [] (fun k x => l0.f K k x.1.2.2.1 x.1.2.2.2.1 x.1.2.2.2.2 x.2.2.2.2.2.2.2.1) (fun x r => (((), ()), ((), (), ()), ((), (), ()), x.2.2.2.1, x.2.2.2.2.1, x.2.2.2.2.2.1, x.2.2.2.2.2.2.1, r, x.2.2.2.2.2.2.2.2)) fun k x => by
  rw [q0a, l0.f]
  try simp only [el]
  kernel_rfl
noncomputable def f (K : Nat) (a0 : List Int) (a1 : List q0v) (a2 : List q0i) : Option (List Int × List q0v × List q0i) := (q0g.f K a0).bind fun t => (q0c.f K a2).bind fun t_1 => (l0.f K K a1 (↑a1.length : Int) (0 : Int) []).bind fun t_2 => some (t, t_2, t_1)
noncomputable def e (K : Nat) : En M := fnE (X K) 80 Tryz.func80 ⟨sh13, [], (.agg (.cons (.own 0) (.cons (.own 1) (.own 2)))), [.list 2 yI [], .list 78 q3c [], .list 86 q19 []]⟩ [l0.b K] (fun x => f K x.1.1 x.1.2.1 x.1.2.2) (fun x r => (((), (), ()), r.1, r.2.1, r.2.2, ())) fun x => by
  rw [q0a, f]
  try simp only [el]
  kernel_rfl
end q9t
namespace z6i
noncomputable def X (K : Nat) : Fx M 1 := { hmx := mxd, nt := 95, cs := [q9o.e K], rf := [(21, ⟨[3, 4, 7, 10, 20, 21, 22, 41, 42, 43], sh40, [.list 2 yI [], .cells 267 0 (.cons (.ty (.slice q3c)) (.cons (.own 4) (.own 5))), .list 270 q8w [], .cells 270 0 (.cons (.ty (.slice q56)) (.cons (.ty (.slice yI)) (.cons (.ty yI) (.cons (.ty yI) (.cons (.ty yI) (.ty yI)))))), .list 268 (.slice q8w) [], .list 3 yI []]⟩)] }
noncomputable def l2.f (K : Nat) : Nat → Int → List q3n → Int → Int → List Int → Option (Int × List Int)
  | 0, _, _, _, _, _ => none
  | k + 1, a0, a7, a8, a9, a20 => bif decide (a9 < a8) then bif decide ((0 : Int) ≤ a9) && true then a7[a9.toNat]?.bind fun t => (q9o.f K t.1 t.2.1).bind fun t => bif t.2 then bif decide ((0 : Int) ≤ a9) then bif a9.toNat.blt a20.length then a20[a9.toNat]?.bind fun t => l2.f K k (IntKind.i64.wrap (a0 + (1 : Int))) a7 a8 (IntKind.i64.wrap (a9 + (1 : Int))) (a20.set a9.toNat a0) else none else none else l2.f K k a0 a7 a8 (IntKind.i64.wrap (a9 + (1 : Int))) a20 else none else some (a0, a20)
noncomputable def l2.b (K : Nat) : Lp M 1 := q2i (X K) 14 95 4 (q0q Tryz.f81 2) ⟨[3, 4, 7, 10, 20, 21, 22, 41, 42, 43, 57, 58, 59], (.cons (.ptr 1 0) (.cons (.ty yI) (.cons (.own 2) (.cons (.ptr 3 0) (.cons (.ty (.slice q3c)) (.cons (.ty yI) (.cons (.ty yI) (.cons (.ty (.slice q2f)) (.cons (.ty yI) (.cons (.ty yI) (.cons (.ty (.slice q56)) (.cons (.ty yI) (.ty yI))))))))))))), hs41⟩ ⟨[3, 4, 7, 10, 20, 21, 22, 41, 42, 43], sh40, hs41⟩ K [] (fun k x => l2.f K k x.1.2.1 x.1.2.2.2.2.2.2.2.2.2.2.1 x.1.2.2.2.2.2.2.2.2.2.2.2.1 x.1.2.2.2.2.2.2.2.2.2.2.2.2 x.2.2.2.2.2.2.2.1) (fun x r => (((), r.1, (), (), x.1.2.2.2.2.1, x.1.2.2.2.2.2.1, x.1.2.2.2.2.2.2.1, x.1.2.2.2.2.2.2.2.1, x.1.2.2.2.2.2.2.2.2.1, x.1.2.2.2.2.2.2.2.2.2.1), x.2.1, x.2.2.1, x.2.2.2.1, x.2.2.2.2.1, x.2.2.2.2.2.1, x.2.2.2.2.2.2.1, r.2, ())) fun k x => by
  rw [q0a, l2.f]
  try simp only [el]
  kernel_rfl
noncomputable def l1.f (K : Nat) : Nat → Int → List q1b → Int → Int → List z80 → Option (Int × List z80)
  | 0, _, _, _, _, _ => none
  | k + 1, a0, a4, a5, a6, a9 => bif decide (a6 < a5) then bif decide ((0 : Int) ≤ a6) && true then a4[a6.toNat]?.bind fun t => bif decide ((↑(List.length t.1) : Int) ≤ (4000000 : Int)) && (↑(List.length t.1) : Int) == (↑(List.length t.1) : Int) && true && true && true then (l2.f K K a0 t.1 (↑(List.length t.1) : Int) (0 : Int) (List.replicate (↑(List.length t.1) : Int).toNat (0 : Int))).bind fun t_1 => bif (a9.length + [(t.1, t_1.2, t.2.1, t.2.2.1, t.2.2.2.1, t.2.2.2.2)].length).ble (4000000 : Nat) then l1.f K k t_1.1 a4 a5 (IntKind.i64.wrap (a6 + (1 : Int))) (a9 ++ [(t.1, t_1.2, t.2.1, t.2.2.1, t.2.2.2.1, t.2.2.2.2)]) else none else none else none else some (a0, a9)
noncomputable def l1.b (K : Nat) : Lp M 1 := q2i (X K) 10 95 2 (q0q Tryz.f81 1) ⟨[3, 4, 7, 20, 21, 22, 41, 42, 43], (.cons (.ptr 1 0) (.cons (.ty yI) (.cons (.own 2) (.cons (.ty (.slice q3c)) (.cons (.ty yI) (.cons (.ty yI) (.cons (.ty (.slice q2f)) (.cons (.ty yI) (.ty yI))))))))), hs42⟩ ⟨[3, 4, 7, 20, 21, 22], (.cons (.ptr 1 0) (.cons (.ty yI) (.cons (.own 2) (.cons (.ty (.slice q3c)) (.cons (.ty yI) (.ty yI)))))), hs42⟩ K [l2.b K] (fun k x => l1.f K k x.1.2.1 x.1.2.2.2.2.2.2.1 x.1.2.2.2.2.2.2.2.1 x.1.2.2.2.2.2.2.2.2 x.2.2.2.1) (fun x r => (((), r.1, (), x.1.2.2.2.1, x.1.2.2.2.2.1, x.1.2.2.2.2.2.1), x.2.1, x.2.2.1, r.2, x.2.2.2.2)) fun k x => by
  rw [q0a, l1.f]
  try simp only [el]
  kernel_rfl
noncomputable def l0.f (K : Nat) : Nat → Int → List q0v → Int → Int → List (List z80) → List Int → Option (List (List z80) × List Int)
  | 0, _, _, _, _, _, _ => none
  | k + 1, a0, a1, a2, a3, a6, a7 => bif decide (a3 < a2) then bif decide ((0 : Int) ≤ a3) && true then a1[a3.toNat]?.bind fun t => bif (a7.length + [a0].length).ble (4000000 : Nat) then (l1.f K K (IntKind.i64.wrap (a0 + t.2.2.1)) t.2.2.2 (↑(List.length t.2.2.2) : Int) (0 : Int) []).bind fun t => bif (a6.length + [t.2].length).ble (4000000 : Nat) then l0.f K k t.1 a1 a2 (IntKind.i64.wrap (a3 + (1 : Int))) (a6 ++ [t.2]) (a7 ++ [a0]) else none else none else none else some (a6, a7)
noncomputable def l0.b (K : Nat) : Lp M 1 := q2i (X K) 4 95 0 (q0q Tryz.f81 0) ⟨[3, 4, 20, 21, 22], (.cons (.ptr 1 0) (.cons (.ty yI) (.cons (.ty (.slice q3c)) (.cons (.ty yI) (.ty yI))))), hs43⟩ ⟨[3], (.ptr 1 0), hs43⟩ K [l1.b K, l2.b K] (fun k x => l0.f K k x.1.2.1 x.1.2.2.1 x.1.2.2.2.1 x.1.2.2.2.2 x.2.2.2.1 x.2.2.2.2.1) (fun x r => ((), x.2.1, x.2.2.1, r.1, r.2, ())) fun k x => by
  rw [q0a, l0.f]
  try simp only [el]
  kernel_rfl
noncomputable def f (K : Nat) (a0 : List q0v) : Option (Option q4w) := (l0.f K K (0 : Int) a0 (↑a0.length : Int) (0 : Int) [] []).bind fun t => some (some (a0, t.1, t.2))
noncomputable def e (K : Nat) : En M := fnE (X K) 81 Tryz.func81 ⟨(.agg (.cons (.own 0) (.cons (.ty (.slice q3c)) (.ty (.slice q19))))), [.list 2 yI []], (.ty (.ptr q84)), [.list 2 yI []]⟩ [l0.b K, l1.b K, l2.b K] (fun x => f K x.1.2.1) (fun x r => (r, x.2)) fun x => by
  rw [q0a, f]
  try simp only [el]
  kernel_rfl
end z6i
namespace q3w
noncomputable def X (K : Nat) : Fx M 0 := { hmx := mxd, nt := 46, cs := [] }
noncomputable def l0.f (K : Nat) : Nat → Option q4w → Int → Int → Int → List Int → Option (List Int)
  | 0, _, _, _, _, _ => none
  | k + 1, a0, a1, a2, a3, a13 => bif decide (a3 < a2) then a0.bind fun t => bif decide ((0 : Int) ≤ a1) && true then t.2.2[a1.toNat]?.bind fun t => bif (a13.length + [IntKind.i64.wrap (t + a3)].length).ble (4000000 : Nat) then l0.f K k a0 a1 a2 (IntKind.i64.wrap (a3 + (1 : Int))) (a13 ++ [IntKind.i64.wrap (t + a3)]) else none else none else some a13
noncomputable def l0.b (K : Nat) : Lp M 0 := q2i (X K) 4 46 0 (q0q Tryz.f83 0) ⟨[0, 1, 6, 7, 26, 27], (.cons (.ty (.ptr q84)) (.cons (.ty yI) (.cons (.ptr 0 0) (.cons (.ptr 1 0) (.cons (.ty yI) (.ty yI)))))), hs44⟩ ⟨[6, 7], sh1c, hs44⟩ K [] (fun k x => l0.f K k x.1.1 x.1.2.1 x.1.2.2.2.2.1 x.1.2.2.2.2.2 x.2.2.2.2.2.2.1) (fun x r => (((), ()), x.2.1, x.2.2.1, x.2.2.2.1, x.2.2.2.2.1, x.2.2.2.2.2.1, r, ())) fun k x => by
  rw [q0a, l0.f]
  try simp only [el]
  kernel_rfl
noncomputable def f (K : Nat) (a0 : Option q4w) (a1 : Int) (a2 : List Int) : Option (Int × Int × List Int × List Int) := a0.bind fun t => bif decide ((0 : Int) ≤ a1) && true then t.1[a1.toNat]?.bind fun t => bif decide ((0 : Int) ≤ t.2.2.1) && decide (t.2.2.1 ≤ (4000000 : Int)) && t.2.2.1 == t.2.2.1 && true && true && true then (l0.f K K a0 a1 (↑(List.take (List.replicate (Int.toNat t.2.2.1) (0 : Int)).length a2 ++ List.drop a2.length (List.replicate (Int.toNat t.2.2.1) (0 : Int))).length : Int) (0 : Int) []).bind fun t_1 => some ((0 : Int), (0 : Int), List.take (List.replicate (Int.toNat t.2.2.1) (0 : Int)).length a2 ++ List.drop a2.length (List.replicate (Int.toNat t.2.2.1) (0 : Int)), t_1) else none else none
noncomputable def e (K : Nat) : En M := fnE (X K) 83 Tryz.func83 ⟨(.cons (.ty (.ptr q84)) (.cons (.ty yI) (.ty (.slice yI)))), [], (.agg (.cons (.ty yI) (.cons (.ty yI) (.cons (.ty yI) (.cons (.own 0) (.own 1)))))), [.list 2 yI [], .list 3 yI []]⟩ [l0.b K] (fun x => f K x.1.1 x.1.2.1 x.1.2.2) (fun x r => ((x.1.2.1, r.1, r.2.1, (), ()), r.2.2.1, r.2.2.2, ())) fun x => by
  rw [q0a, f]
  try simp only [el]
  kernel_rfl
end q3w
namespace z68
noncomputable def X (K : Nat) : Fx M 0 := { hmx := mxd, nt := 62, cs := [q23.e K, q9t.e K, z6i.e K, q0m.e K, q3w.e K], ad := [(83, [(0, 1), (1, 2)])], rf := [(10, ⟨[1, 2, 3, 4], (.cons (.ty yI) (.cons (.ty (.slice yI)) (.cons (.ty (.slice yI)) (.ptr 0 0)))), [hh17, .void 2 yI, .void 3 yI]⟩)], cp := [(6, [.bool], [24])] }
noncomputable def f (K : Nat) (a0 : List Int) (a1 : List q0v) (a2 : List q0i) (a3 : Int) (a4 : List Int) (a5 : List Int) : Option (Err × Option q4w × List Int × Int × Int × List Int × List Int × (List (Int × Int × Int × Nat × Nat)) × List (Option (List Int)) × List (Option (List Int))) := (q23.f K a0 a1 a2).bind fun t => bif bif true then !t.isNil else t.isNil then none else bif decide ((↑a2.length : Int) > (0 : Int)) then none else q02 (bif decide (a3 < (0 : Int)) then some true else some (decide (a3 ≥ (↑a1.length : Int)))) fun t => bif t then none else bif decide ((0 : Int) ≤ a3) && true then a1[a3.toNat]?.bind fun t => bif (↑a4.length : Int) != t.2.1 then none else (q9t.f K a0 a1 a2).bind fun t => (z6i.f K t.2.1).bind fun t_1 => (q0m.f K a5).bind fun t_2 => (q3w.f K t_1 a3 a4).bind fun t_3 => some (Err.nil, t_1, t_2, (0 : Int), (0 : Int), t.1, [], [(a3, t_3.1, t_3.2.1, (0 : Nat), (0 : Nat))], [] ++ [some t_3.2.2.1], [] ++ [some t_3.2.2.2]) else none
noncomputable def e (K : Nat) : En M := fnE (X K) 27 Tryz.func27 ⟨(.cons (.agg (.cons (.ty (.slice yI)) (.cons (.ty (.slice q3c)) (.ty (.slice q19))))) (.cons (.ty yI) (.cons (.ty (.slice yI)) (.ty (.slice yI))))), [], (.cons (.ptr 0 0) (.ty .err)), hs46⟩ [] (fun x => f K x.1.1.1 x.1.1.2.1 x.1.1.2.2 x.1.2.1 x.1.2.2.1 x.1.2.2.2) (fun x r => (((), r.1), (r.2.1, (), r.2.2.1, (), (), r.2.2.2.1, r.2.2.2.2.1), r.2.2.2.2.2.1, r.2.2.2.2.2.2.1, r.2.2.2.2.2.2.2.1, r.2.2.2.2.2.2.2.2.1, r.2.2.2.2.2.2.2.2.2, ())) fun x => by
  rw [q0a, f]
  try simp only [el]
  kernel_rfl
end z68
namespace q3x
noncomputable def f (K : Nat) (a6 : List (Int × Int × Int × Nat × Nat)) : Option (Nat) := bif decide ((0 : Int) ≤ IntKind.i64.wrap ((↑a6.length : Int) - (1 : Int))) then bif (IntKind.i64.wrap ((↑a6.length : Int) - (1 : Int))).toNat.blt a6.length then some (IntKind.i64.wrap ((↑a6.length : Int) - (1 : Int))).toNat else none else none
noncomputable def e (K : Nat) : En M := fnE (m := 6) { hmx := mxd, nt := 14, cs := [] } 137 Tryz.func137 ⟨(.ptr 0 0), hs46, (.ptrI 3 0), hs46⟩ [] (fun x => f K x.2.2.2.2.1) (fun x r => (r, x.2)) fun x => by
  rw [q0a, f]
  try simp only [el]
  kernel_rfl
end q3x
namespace q4u
noncomputable def f (K : Nat) (a0 : Nat) (a1 : Int) (a2 : Int) (a3 : Option q4w) (a9 : List (Int × Int × Int × Nat × Nat)) (a10 : List (Option (List Int))) (a11 : List (Option (List Int))) : Option ((List (Int × Int × Int × Nat × Nat)) × List (Option (List Int)) × List (Option (List Int))) := a9[a0]?.bind fun t => a9[a0]?.bind fun t_1 => a3.bind fun t_2 => a9[a0]?.bind fun t_3 => bif decide ((0 : Int) ≤ t_3.1) && true then t_2.2.1[Int.toNat t_3.1]?.bind fun t_4 => a9[a0]?.bind fun t_5 => bif decide ((0 : Int) ≤ t_5.2.1) && true then t_4[Int.toNat t_5.2.1]?.bind fun t_6 => a9[a0]?.bind fun t_7 => bif decide ((0 : Int) ≤ t_7.2.2.1) && true then t_6.2.1[Int.toNat t_7.2.2.1]?.bind fun t_8 => q02 (a10[t.2.2.2.1]?.bind fun t => t.bind fun t => some t.length) fun t_9 => bif decide ((0 : Int) ≤ a1) then bif a1.toNat.blt t_9 then a10[t.2.2.2.1]?.bind fun t_10 => t_10.bind fun t_11 => t_11[a1.toNat]?.bind fun t_12 => q02 (a11[t_1.2.2.2.2]?.bind fun t => t.bind fun t => some t.length) fun t_13 => bif decide ((0 : Int) ≤ a1) then bif a1.toNat.blt t_13 then a11[t_1.2.2.2.2]?.bind fun t_14 => t_14.bind fun t_15 => t_15[a1.toNat]?.bind fun t_16 => a9[a0]?.bind fun t_17 => a9[a0]?.bind fun t_18 => some (a9.set a0 (t_18.1, t_18.2.1, IntKind.i64.wrap (t_17.2.2.1 + (1 : Int)), t_18.2.2.2.1, t_18.2.2.2.2), a10.set t.2.2.2.1 (some (t_11.set a1.toNat a2)), a11.set t_1.2.2.2.2 (some (t_15.set a1.toNat t_8))) else none else none else none else none else none else none else none
noncomputable def e (K : Nat) : En M := fnE (m := 6) { hmx := mxd, nt := 54, cs := [] } 194 Tryz.func194 ⟨(.cons (.ptr 0 0) (.cons (.ptrI 3 0) (.cons (.ty yI) (.ty yI)))), hs46, .unit, hs46⟩ [] (fun x => f K x.1.2.1 x.1.2.2.1 x.1.2.2.2 x.2.1.1 x.2.2.2.2.1 x.2.2.2.2.2.1 x.2.2.2.2.2.2.1) (fun x r => ((), x.2.1, x.2.2.1, x.2.2.2.1, r.1, r.2.1, r.2.2, ())) fun x => by
  rw [q0a, f]
  try simp only [el]
  kernel_rfl
end q4u
namespace q6t
noncomputable def f (K : Nat) (a0 : Int) (a1 : Option q4w) (a3 : Int) (a4 : Int) (a7 : List (Int × Int × Int × Nat × Nat)) (a8 : List (Option (List Int))) (a9 : List (Option (List Int))) : Option (Int × Int × List (Option (List Int)) × List (Option (List Int)) × (List (Int × Int × Int × Nat × Nat))) := bif decide ((↑(0 : Nat) : Int) ≤ IntKind.i64.wrap ((↑a7.length : Int) - (1 : Int))) && decide (IntKind.i64.wrap ((↑a7.length : Int) - (1 : Int)) ≤ (↑a7.length : Int)) then bif (↑((IntKind.i64.wrap ((↑a7.length : Int) - (1 : Int))).toNat - (0 : Nat)) : Int) == (0 : Int) then bif ((IntKind.i64.wrap ((↑a7.length : Int) - (1 : Int))).toNat - (0 : Nat)).ble a7.length then some ((1 : Int), a0, a8, a9, List.take ((IntKind.i64.wrap ((↑a7.length : Int) - (1 : Int))).toNat - (0 : Nat)) a7) else none else bif ((IntKind.i64.wrap ((↑a7.length : Int) - (1 : Int))).toNat - (0 : Nat)).ble a7.length then (q3x.f K (List.take ((IntKind.i64.wrap ((↑a7.length : Int) - (1 : Int))).toNat - (0 : Nat)) a7)).bind fun t => a1.bind fun t_1 => (List.take ((IntKind.i64.wrap ((↑a7.length : Int) - (1 : Int))).toNat - (0 : Nat)) a7)[t]?.bind fun t_2 => bif decide ((0 : Int) ≤ t_2.1) && true then t_1.2.1[Int.toNat t_2.1]?.bind fun t_3 => (List.take ((IntKind.i64.wrap ((↑a7.length : Int) - (1 : Int))).toNat - (0 : Nat)) a7)[t]?.bind fun t_4 => bif decide ((0 : Int) ≤ t_4.2.1) && true then t_3[Int.toNat t_4.2.1]?.bind fun t_5 => (List.take ((IntKind.i64.wrap ((↑a7.length : Int) - (1 : Int))).toNat - (0 : Nat)) a7)[t]?.bind fun t_6 => bif decide ((0 : Int) ≤ t_6.2.2.1) && true then t_5.1[Int.toNat t_6.2.2.1]?.bind fun t_7 => (q4u.f K t t_7.2.1 a0 a1 (List.take ((IntKind.i64.wrap ((↑a7.length : Int) - (1 : Int))).toNat - (0 : Nat)) a7) a8 a9).bind fun t => some (a3, a4, t.2.1, t.2.2, t.1) else none else none else none else none else none
noncomputable def e (K : Nat) : En M := fnE (m := 6) { hmx := mxd, nt := 65, cs := [q3x.e K, q4u.e K] } 191 Tryz.func191 ⟨sh2, hs46, .unit, hs47⟩ [] (fun x => f K x.1.2 x.2.1.1 x.2.1.2.2.2.2.2.1 x.2.1.2.2.2.2.2.2 x.2.2.2.2.1 x.2.2.2.2.2.1 x.2.2.2.2.2.2.1) (fun x r => ((), (x.2.1.1, (), x.2.1.2.2.1, (), (), r.1, r.2.1), x.2.2.1, x.2.2.2.1, (), r.2.2.1, r.2.2.2.1, r.2.2.2.2, ())) fun x => by
  rw [q0a, f]
  try simp only [el]
  kernel_rfl
end q6t
namespace q68
noncomputable def X (K : Nat) : Fx M 6 := { hmx := mxd, nt := 47, cs := [q6t.e K], cp := [(4, [.bool], [23])] }
noncomputable def f (K : Nat) (a0 : Nat) (a1 : Int) (a2 : Int) (a3 : Int) (a4 : Int) (a5 : Option q4w) (a7 : Int) (a8 : Int) (a11 : List (Int × Int × Int × Nat × Nat)) (a12 : List (Option (List Int))) (a13 : List (Option (List Int))) : Option (Int × Int × List (Option (List Int)) × List (Option (List Int)) × (List (Int × Int × Int × Nat × Nat))) := bif a1 == (3 : Int) then a11[a0]?.bind fun t => q02 (a12[t.2.2.2.1]?.bind fun t => t.bind fun t => some t.length) fun t_1 => bif decide ((0 : Int) ≤ a2) then bif a2.toNat.blt t_1 then a12[t.2.2.2.1]?.bind fun t => t.bind fun t => t[a2.toNat]?.bind fun t => q6t.f K t a5 a7 a8 a11 a12 a13 else none else none else q02 (bif a1 == (2 : Int) then a11[a0]?.bind fun t => q02 (a12[t.2.2.2.1]?.bind fun t => t.bind fun t => some t.length) fun t_1 => bif decide ((0 : Int) ≤ a2) then bif a2.toNat.blt t_1 then a12[t.2.2.2.1]?.bind fun t => t.bind fun t => t[a2.toNat]?.bind fun t => some (t == (0 : Int)) else none else none else some false) fun t => bif t then a11[a0]?.bind fun t => (a11.set a0 (t.1, a4, t.2.2.1, t.2.2.2.1, t.2.2.2.2))[a0]?.bind fun t_1 => some (a7, a8, a12, a13, (a11.set a0 (t.1, a4, t.2.2.1, t.2.2.2.1, t.2.2.2.2)).set a0 (t_1.1, t_1.2.1, (0 : Int), t_1.2.2.2.1, t_1.2.2.2.2)) else a11[a0]?.bind fun t => (a11.set a0 (t.1, a3, t.2.2.1, t.2.2.2.1, t.2.2.2.2))[a0]?.bind fun t_1 => some (a7, a8, a12, a13, (a11.set a0 (t.1, a3, t.2.2.1, t.2.2.2.1, t.2.2.2.2)).set a0 (t_1.1, t_1.2.1, (0 : Int), t_1.2.2.2.1, t_1.2.2.2.2))
noncomputable def e (K : Nat) : En M := fnE (X K) 138 Tryz.func138 ⟨(.cons (.ptr 0 0) (.cons (.ptrI 3 0) (.agg (.cons (.ty yI) (.cons (.ty yI) (.cons (.ty yI) (.ty yI))))))), hs46, .unit, hs47⟩ [] (fun x => f K x.1.2.1 x.1.2.2.1 x.1.2.2.2.1 x.1.2.2.2.2.1 x.1.2.2.2.2.2 x.2.1.1 x.2.1.2.2.2.2.2.1 x.2.1.2.2.2.2.2.2 x.2.2.2.2.1 x.2.2.2.2.2.1 x.2.2.2.2.2.2.1) (fun x r => ((), (x.2.1.1, (), x.2.1.2.2.1, (), (), r.1, r.2.1), x.2.2.1, x.2.2.2.1, (), r.2.2.1, r.2.2.2.1, r.2.2.2.2, ())) fun x => by
  rw [q0a, f]
  try simp only [el]
  kernel_rfl
end q68
namespace q6w
noncomputable def X (K : Nat) : Fx M 6 := { hmx := mxd, nt := 51, cs := [q3w.e K], ad := [(83, [(0, 4), (1, 5)])] }
noncomputable def l0.f (K : Nat) : Nat → Nat → List Int → Int → Int → List (Int × Int × Int × Nat × Nat) → List (Option (List Int)) → List Int → Option (List Int)
  | 0, _, _, _, _, _, _, _ => none
  | k + 1, a0, a1, a2, a3, a10, a11, a19 => bif decide (a3 < a2) then bif decide ((0 : Int) ≤ a3) && true then a1[a3.toNat]?.bind fun t => a10[a0]?.bind fun t_1 => q02 (a11[t_1.2.2.2.1]?.bind fun t => t.bind fun t => some t.length) fun t_2 => bif decide ((0 : Int) ≤ t) then bif (Int.toNat t).blt t_2 then a11[t_1.2.2.2.1]?.bind fun t_3 => t_3.bind fun t_4 => t_4[Int.toNat t]?.bind fun t => bif (a19.length + [t].length).ble (4000000 : Nat) then l0.f K k a0 a1 a2 (IntKind.i64.wrap (a3 + (1 : Int))) a10 a11 (a19 ++ [t]) else none else none else none else none else some a19
noncomputable def l0.b (K : Nat) : Lp M 6 := q2i (X K) 5 51 0 (q0q Tryz.f192 0) ⟨[0, 1, 5, 7, 17, 18, 19], (.cons (.ptr 0 0) (.cons (.ptrI 3 0) (.cons (.ptr 6 0) (.cons (.own 7) (.cons (.ty (.slice yI)) (.cons (.ty yI) (.ty yI))))))), hs49⟩ ⟨[0, 5, 7], (.cons (.ptr 0 0) (.cons (.ptr 6 0) (.own 7))), hs49⟩ K [] (fun k x => l0.f K k x.1.2.1 x.1.2.2.2.2.1 x.1.2.2.2.2.2.1 x.1.2.2.2.2.2.2 x.2.2.2.2.1 x.2.2.2.2.2.1 x.2.2.2.2.2.2.2.2.1) (fun x r => (((), (), ()), x.2.1, x.2.2.1, x.2.2.2.1, x.2.2.2.2.1, x.2.2.2.2.2.1, x.2.2.2.2.2.2.1, x.2.2.2.2.2.2.2.1, r, ())) fun k x => by
  rw [q0a, l0.f]
  try simp only [el]
  kernel_rfl
noncomputable def f (K : Nat) (a0 : Nat) (a4 : Int) (a6 : List Int) (a7 : Option q4w) (a13 : List (Int × Int × Int × Nat × Nat)) (a14 : List (Option (List Int))) (a15 : List (Option (List Int))) : Option (Bool × List (Option (List Int)) × List (Option (List Int)) × (List (Int × Int × Int × Nat × Nat))) := bif (↑a13.length : Int) == (64 : Int) then some (false, a14, a15, a13) else (l0.f K K a0 a6 (↑a6.length : Int) (0 : Int) a13 a14 []).bind fun t => (q3w.f K a7 a4 t).bind fun t => bif (a13.length + [(a4, t.1, t.2.1, a14.length, a15.length)].length).ble (4000000 : Nat) then some (true, a14 ++ [some t.2.2.1], a15 ++ [some t.2.2.2], a13 ++ [(a4, t.1, t.2.1, a14.length, a15.length)]) else none
noncomputable def e (K : Nat) : En M := fnE (X K) 192 Tryz.func192 ⟨sh48, hs46, (.ty .bool), hs47⟩ [l0.b K] (fun x => f K x.1.2.1 x.1.2.2.2.2.2.1 x.1.2.2.2.2.2.2.2 x.2.1.1 x.2.2.2.2.1 x.2.2.2.2.2.1 x.2.2.2.2.2.2.1) (fun x r => (r.1, x.2.1, x.2.2.1, x.2.2.2.1, (), r.2.1, r.2.2.1, r.2.2.2, ())) fun x => by
  rw [q0a, f]
  try simp only [el]
  kernel_rfl
end q6w
namespace z6q
noncomputable def f (K : Nat) (a0 : Bool) : Option (Int) := bif a0 then some (1 : Int) else some (0 : Int)
noncomputable def e (K : Nat) : En M := fnE (m := 0) { hmx := mxd, nt := 4, cs := [] } 225 Tryz.func225 ⟨(.ty .bool), [], (.ty yI), []⟩ [] (fun (x : (Bool × Unit)) => f K x.1) (fun x r => (r, ())) fun (x : (Bool × Unit)) => by
  refine Eq.trans ?_ q0a.symm
  rw [f]
  try simp only [el]
  kernel_rfl
end z6q
namespace z54
noncomputable def f (K : Nat) (a0 : Int) (a1 : Int) (a2 : Int) : Option (Int × Bool) := bif a0 == (4 : Int) then some (IntKind.i64.wrap (a1 + a2), true) else bif a0 == (5 : Int) then some (IntKind.i64.wrap (a1 - a2), true) else bif a0 == (6 : Int) then some (IntKind.i64.wrap (a1 * a2), true) else bif a0 == (9 : Int) then some (IntKind.i64.wrap (↑(BitVec.ofInt (64 : Nat) a1 &&& BitVec.ofInt (64 : Nat) a2).toNat : Int), true) else bif a0 == (10 : Int) then some (IntKind.i64.wrap (↑(BitVec.ofInt (64 : Nat) a1 ^^^ BitVec.ofInt (64 : Nat) a2).toNat : Int), true) else bif a0 == (11 : Int) then (z6q.f K (decide (a1 < a2))).bind fun t => some (t, true) else bif a0 == (12 : Int) then (z6q.f K (a1 == a2)).bind fun t => some (t, true) else bif a0 == (7 : Int) then bif a2 == (0 : Int) then some ((0 : Int), false) else bif a0 == (7 : Int) then bif a2 == (0 : Int) then none else some (IntKind.i64.wrap (a1.tdiv a2), true) else bif a2 == (0 : Int) then none else some (a1.tmod a2, true) else bif a0 == (8 : Int) then bif a2 == (0 : Int) then some ((0 : Int), false) else bif a0 == (7 : Int) then bif a2 == (0 : Int) then none else some (IntKind.i64.wrap (a1.tdiv a2), true) else bif a2 == (0 : Int) then none else some (a1.tmod a2, true) else some ((0 : Int), false)
noncomputable def e (K : Nat) : En M := fnE (m := 0) { hmx := mxd, nt := 61, cs := [z6q.e K] } 213 Tryz.func213 ⟨(.cons (.ty yI) (.cons (.ty yI) (.ty yI))), [], sh20, []⟩ [] (fun x => f K x.1.1 x.1.2.1 x.1.2.2) (fun x r => ((r.1, r.2), ())) fun x => by
  rw [q0a, f]
  try simp only [el]
  kernel_rfl
end z54
namespace q6f
noncomputable def f (K : Nat) (a0 : Nat) (a1 : Int) (a3 : Int) (a4 : Int) (a5 : Int) (a8 : List Int) (a11 : List Int) (a13 : List (Int × Int × Int × Nat × Nat)) (a14 : List (Option (List Int))) : Option (Int × Bool × List Int) := bif a1 == (1 : Int) then some (a5, true, a8) else bif a1 == (2 : Int) then a13[a0]?.bind fun t => q02 (a14[t.2.2.2.1]?.bind fun t => t.bind fun t => some t.length) fun t_1 => bif decide ((0 : Int) ≤ a3) then bif a3.toNat.blt t_1 then a14[t.2.2.2.1]?.bind fun t => t.bind fun t => t[a3.toNat]?.bind fun t => some (t, true, a8) else none else none else bif a1 == (3 : Int) then a13[a0]?.bind fun t => q02 (a14[t.2.2.2.1]?.bind fun t => t.bind fun t => some t.length) fun t_1 => bif decide ((0 : Int) ≤ a3) then bif a3.toNat.blt t_1 then a14[t.2.2.2.1]?.bind fun t => t.bind fun t => t[a3.toNat]?.bind fun t => some (IntKind.i64.wrap ((0 : Int) - t), true, a8) else none else none else bif a1 == (13 : Int) then bif decide ((0 : Int) ≤ a4) then bif a4.toNat.blt a11.length then a11[a4.toNat]?.bind fun t => some (t, true, a8) else none else none else bif a1 == (15 : Int) then bif (↑a8.length : Int) == (0 : Int) then some ((0 : Int), false, a8) else a8[(0 : Nat)]?.bind fun t => bif decide ((1 : Int) ≤ (↑a8.length : Int)) && decide ((↑a8.length : Int) ≤ (↑a8.length : Int)) && true then some (t, true, List.drop (1 : Nat) (List.take (↑a8.length : Int).toNat a8)) else none else a13[a0]?.bind fun t => q02 (a14[t.2.2.2.1]?.bind fun t => t.bind fun t => some t.length) fun t_1 => bif decide ((0 : Int) ≤ a3) then bif a3.toNat.blt t_1 then a14[t.2.2.2.1]?.bind fun t => t.bind fun t => t[a3.toNat]?.bind fun t => a13[a0]?.bind fun t_2 => q02 (a14[t_2.2.2.2.1]?.bind fun t => t.bind fun t => some t.length) fun t_3 => bif decide ((0 : Int) ≤ a4) then bif a4.toNat.blt t_3 then a14[t_2.2.2.2.1]?.bind fun t_4 => t_4.bind fun t_5 => t_5[a4.toNat]?.bind fun t_6 => (z54.f K a1 t t_6).bind fun t => some (t.1, t.2, a8) else none else none else none else none
noncomputable def e (K : Nat) : En M := fnE (m := 6) { hmx := mxd, nt := 90, cs := [z54.e K] } 193 Tryz.func193 ⟨sh48, hs46, sh20, hs46⟩ [] (fun x => f K x.1.2.1 x.1.2.2.1 x.1.2.2.2.2.1 x.1.2.2.2.2.2.1 x.1.2.2.2.2.2.2.1 x.2.1.2.2.1 x.2.2.1 x.2.2.2.2.1 x.2.2.2.2.2.1) (fun x r => ((r.1, r.2.1), (x.2.1.1, (), r.2.2, x.2.1.2.2.2), x.2.2)) fun x => by
  rw [q0a, f]
  try simp only [el]
  kernel_rfl
end q6f
namespace q6v
noncomputable def f (K : Nat) (a0 : Nat) (a1 : Int) (a2 : Int) (a3 : Int) (a4 : Int) (a5 : Int) (a6 : List Int) (a7 : Option q4w) (a8 : List Int) (a11 : List Int) (a12 : List Int) (a13 : List (Int × Int × Int × Nat × Nat)) (a14 : List (Option (List Int))) (a15 : List (Option (List Int))) : Option (Bool × List Int × List Int × List (Option (List Int)) × List (Option (List Int)) × List Int × (List (Int × Int × Int × Nat × Nat))) := bif a1 == (17 : Int) then (q6w.f K a0 a4 a6 a7 a13 a14 a15).bind fun t => some (t.1, a8, a11, t.2.1, t.2.2.1, a12, t.2.2.2) else bif a1 == (14 : Int) then a13[a0]?.bind fun t => q02 (a14[t.2.2.2.1]?.bind fun t => t.bind fun t => some t.length) fun t_1 => bif decide ((0 : Int) ≤ a3) then bif a3.toNat.blt t_1 then a14[t.2.2.2.1]?.bind fun t => t.bind fun t => t[a3.toNat]?.bind fun t => bif decide ((0 : Int) ≤ a4) then bif a4.toNat.blt a11.length then a11[a4.toNat]?.bind fun t_2 => a13[a0]?.bind fun t_3 => a13[a0]?.bind fun t_4 => some (true, a8, a11.set a4.toNat t, a14, a15, a12, a13.set a0 (t_4.1, t_4.2.1, IntKind.i64.wrap (t_3.2.2.1 + (1 : Int)), t_4.2.2.2.1, t_4.2.2.2.2)) else none else none else none else none else bif a1 == (16 : Int) then a13[a0]?.bind fun t => q02 (a14[t.2.2.2.1]?.bind fun t => t.bind fun t => some t.length) fun t_1 => bif decide ((0 : Int) ≤ a3) then bif a3.toNat.blt t_1 then a14[t.2.2.2.1]?.bind fun t => t.bind fun t => t[a3.toNat]?.bind fun t => bif (a12.length + [t].length).ble (4000000 : Nat) then a13[a0]?.bind fun t_2 => a13[a0]?.bind fun t_3 => some (true, a8, a11, a14, a15, a12 ++ [t], a13.set a0 (t_3.1, t_3.2.1, IntKind.i64.wrap (t_2.2.2.1 + (1 : Int)), t_3.2.2.2.1, t_3.2.2.2.2)) else none else none else none else (q6f.f K a0 a1 a3 a4 a5 a8 a11 a13 a14).bind fun t => bif t.2.1 then (q4u.f K a0 a2 t.1 a7 a13 a14 a15).bind fun t_1 => some (t.2.1, t.2.2, a11, t_1.2.1, t_1.2.2, a12, t_1.1) else some (t.2.1, t.2.2, a11, a14, a15, a12, a13)
noncomputable def e (K : Nat) : En M := fnE (m := 6) { hmx := mxd, nt := 75, cs := [q6w.e K, q6f.e K, q4u.e K] } 139 Tryz.func139 ⟨sh48, hs46, (.ty .bool), hs4a⟩ [] (fun x => f K x.1.2.1 x.1.2.2.1 x.1.2.2.2.1 x.1.2.2.2.2.1 x.1.2.2.2.2.2.1 x.1.2.2.2.2.2.2.1 x.1.2.2.2.2.2.2.2 x.2.1.1 x.2.1.2.2.1 x.2.2.1 x.2.2.2.1 x.2.2.2.2.1 x.2.2.2.2.2.1 x.2.2.2.2.2.2.1) (fun x r => (r.1, (x.2.1.1, (), r.2.1, x.2.1.2.2.2), r.2.2.1, (), (), r.2.2.2.1, r.2.2.2.2.1, r.2.2.2.2.2.1, r.2.2.2.2.2.2, ())) fun x => by
  rw [q0a, f]
  try simp only [el]
  kernel_rfl
end q6v
namespace q6n
noncomputable def X (K : Nat) : Fx M 6 := { hmx := mxd, nt := 63, cs := [q3x.e K, q68.e K, q6v.e K], cp := [(1, [.bool], [13])] }
noncomputable def f (K : Nat) (a0 : Option q4w) (a1 : List Int) (a2 : Int) (a3 : Int) (a4 : List Int) (a5 : List Int) (a6 : List (Int × Int × Int × Nat × Nat)) (a7 : List (Option (List Int))) (a8 : List (Option (List Int))) : Option (Bool × List Int × Int × Int × List Int × List (Option (List Int)) × List (Option (List Int)) × List Int × (List (Int × Int × Int × Nat × Nat))) := q02 (some (a2 != (0 : Int))) fun t => bif t then some (false, a1, a2, a3, a4, a7, a8, a5, a6) else (q3x.f K a6).bind fun t => a0.bind fun t_1 => a6[t]?.bind fun t_2 => bif decide ((0 : Int) ≤ t_2.1) && true then t_1.2.1[Int.toNat t_2.1]?.bind fun t_3 => a6[t]?.bind fun t_4 => bif decide ((0 : Int) ≤ t_4.2.1) && true then t_3[Int.toNat t_4.2.1]?.bind fun t_5 => a6[t]?.bind fun t_6 => bif t_6.2.2.1 == (↑(List.length t_5.1) : Int) then (q68.f K t t_5.2.2.1 t_5.2.2.2.1 t_5.2.2.2.2.1 t_5.2.2.2.2.2 a0 a2 a3 a6 a7 a8).bind fun t => some (true, a1, t.1, t.2.1, a4, t.2.2.1, t.2.2.2.1, a5, t.2.2.2.2) else a6[t]?.bind fun t_7 => bif decide ((0 : Int) ≤ t_7.2.2.1) && true then t_5.1[Int.toNat t_7.2.2.1]?.bind fun t_8 => (q6v.f K t t_8.1 t_8.2.1 t_8.2.2.1 t_8.2.2.2.1 t_8.2.2.2.2.1 t_8.2.2.2.2.2 a0 a1 a4 a5 a6 a7 a8).bind fun t => bif !t.1 then some (false, t.2.1, (2 : Int), a3, t.2.2.1, t.2.2.2.1, t.2.2.2.2.1, t.2.2.2.2.2.1, t.2.2.2.2.2.2) else some (true, t.2.1, a2, a3, t.2.2.1, t.2.2.2.1, t.2.2.2.2.1, t.2.2.2.2.2.1, t.2.2.2.2.2.2) else none else none else none
noncomputable def e (K : Nat) : En M := fnE (X K) 84 Tryz.func84 ⟨(.ptr 0 0), hs46, (.ty .bool), hs4a⟩ [] (fun x => f K x.2.1.1 x.2.1.2.2.1 x.2.1.2.2.2.2.2.1 x.2.1.2.2.2.2.2.2 x.2.2.1 x.2.2.2.1 x.2.2.2.2.1 x.2.2.2.2.2.1 x.2.2.2.2.2.2.1) (fun x r => (r.1, (x.2.1.1, (), r.2.1, (), (), r.2.2.1, r.2.2.2.1), r.2.2.2.2.1, (), (), r.2.2.2.2.2.1, r.2.2.2.2.2.2.1, r.2.2.2.2.2.2.2.1, r.2.2.2.2.2.2.2.2, ())) fun x => by
  rw [q0a, f]
  try simp only [el]
  kernel_rfl
end q6n
namespace q7d
noncomputable def X (K : Nat) : Fx M 6 := { hmx := mxd, nt := 16, cs := [q6n.e K] }
noncomputable def l0.f (K : Nat) : Nat → Int → Int → Option q4w → List Int → Int → Int → List Int → List (Option (List Int)) → List (Option (List Int)) → List Int → List (Int × Int × Int × Nat × Nat) → Option (Int × List Int × Int × Int × List Int × List (Option (List Int)) × List (Option (List Int)) × List Int × (List (Int × Int × Int × Nat × Nat)))
  | 0, _, _, _, _, _, _, _, _, _, _, _ => none
  | k + 1, a0, a1, a2, a3, a4, a5, a6, a7, a8, a9, a10 => bif decide (a1 < a0) then (q6n.f K a2 a3 a4 a5 a6 a9 a10 a7 a8).bind fun t => bif t.1 then l0.f K k a0 (IntKind.i64.wrap (a1 + (1 : Int))) a2 t.2.1 t.2.2.1 t.2.2.2.1 t.2.2.2.2.1 t.2.2.2.2.2.1 t.2.2.2.2.2.2.1 t.2.2.2.2.2.2.2.1 t.2.2.2.2.2.2.2.2 else some (a1, t.2.1, t.2.2.1, t.2.2.2.1, t.2.2.2.2.1, t.2.2.2.2.2.1, t.2.2.2.2.2.2.1, t.2.2.2.2.2.2.2.1, t.2.2.2.2.2.2.2.2) else some (a1, a3, a4, a5, a6, a7, a8, a9, a10)
noncomputable def l0.b (K : Nat) : Lp M 6 := q2i (X K) 2 16 0 (q0q Tryz.f28 0) ⟨[0, 1, 5], sh1e, hs4a⟩ ⟨[5], (.ty yI), hs4a⟩ K [] (fun k x => l0.f K k x.1.2.1 x.1.2.2 x.2.1.1 x.2.1.2.2.1 x.2.1.2.2.2.2.2.1 x.2.1.2.2.2.2.2.2 x.2.2.1 x.2.2.2.2.2.1 x.2.2.2.2.2.2.1 x.2.2.2.2.2.2.2.1 x.2.2.2.2.2.2.2.2.1) (fun x r => (r.1, (x.2.1.1, (), r.2.1, (), (), r.2.2.1, r.2.2.2.1), r.2.2.2.2.1, (), (), r.2.2.2.2.2.1, r.2.2.2.2.2.2.1, r.2.2.2.2.2.2.2.1, r.2.2.2.2.2.2.2.2, ())) fun k x => by
  rw [q0a, l0.f]
  try simp only [el]
  kernel_rfl
noncomputable def f (K : Nat) (a0 : Int) (a1 : Option q4w) (a2 : List Int) (a3 : Int) (a4 : Int) (a5 : List Int) (a6 : List Int) (a7 : List (Int × Int × Int × Nat × Nat)) (a8 : List (Option (List Int))) (a9 : List (Option (List Int))) : Option (Int × List Int × Int × Int × List Int × List (Option (List Int)) × List (Option (List Int)) × List Int × (List (Int × Int × Int × Nat × Nat))) := l0.f K K a0 (0 : Int) a1 a2 a3 a4 a5 a8 a9 a6 a7
noncomputable def e (K : Nat) : En M := fnE (X K) 28 Tryz.func28 ⟨sh2, hs46, (.ty yI), hs4a⟩ [l0.b K] (fun x => f K x.1.2 x.2.1.1 x.2.1.2.2.1 x.2.1.2.2.2.2.2.1 x.2.1.2.2.2.2.2.2 x.2.2.1 x.2.2.2.1 x.2.2.2.2.1 x.2.2.2.2.2.1 x.2.2.2.2.2.2.1) (fun x r => (r.1, (x.2.1.1, (), r.2.1, (), (), r.2.2.1, r.2.2.2.1), r.2.2.2.2.1, (), (), r.2.2.2.2.2.1, r.2.2.2.2.2.2.1, r.2.2.2.2.2.2.2.1, r.2.2.2.2.2.2.2.2, ())) fun x => by
  rw [q0a, f]
  try simp only [el]
  kernel_rfl
end q7d
namespace q53
noncomputable def X (K : Nat) : Fx M 6 := { hmx := mxd, nt := 17, cs := [], cp := [(1, [.bool], [12])] }
noncomputable def f (K : Nat) (a2 : Int) (a3 : Int) : Option (Int × Bool) := q02 (some (a2 != (1 : Int))) fun t => bif t then some ((0 : Int), false) else some (a3, true)
noncomputable def e (K : Nat) : En M := fnE (X K) 29 Tryz.func29 ⟨(.ptr 0 0), hs46, sh20, hs46⟩ [] (fun x => f K x.2.1.2.2.2.2.2.1 x.2.1.2.2.2.2.2.2) (fun x r => ((r.1, r.2), x.2)) fun x => by
  rw [q0a, f]
  try simp only [el]
  kernel_rfl
end q53
namespace q21
noncomputable def X (K : Nat) : Fx M 0 := { hmx := mxd, nt := 51, cs := [q5g.e K, q6e.e K, q7k.e K, z2x.e K, z68.e K, q7d.e K, q53.e K], cp := [(4, [.bool], [38]), (8, [.bool], [0])] }
noncomputable def f (K : Nat) : Option (Bool) := (q5g.f K).bind fun t => (q6e.f K t.1 t.2.1 t.2.2).bind fun t => (q7k.f K t.1 t.2.1 t.2.2).bind fun t => (z2x.f K t.1).bind fun t_1 => (z68.f K t_1.1 t_1.2.1 t_1.2.2.1 (0 : Int) [] []).bind fun t_2 => q02 (bif bif true then !t.2.isNil else t.2.isNil then some true else bif bif true then !t_1.2.2.2.isNil else t_1.2.2.2.isNil then some true else some (bif true then !t_2.1.isNil else t_2.1.isNil)) fun t => bif t then some false else (q7d.f K (5 : Int) t_2.2.1 t_2.2.2.1 t_2.2.2.2.1 t_2.2.2.2.2.1 t_2.2.2.2.2.2.1 t_2.2.2.2.2.2.2.1 t_2.2.2.2.2.2.2.2.1 t_2.2.2.2.2.2.2.2.2.1 t_2.2.2.2.2.2.2.2.2.2).bind fun t => (q53.f K t.2.2.1 t.2.2.2.1).bind fun t => q02 (bif t.1 == (5 : Int) then some t.2 else some false) fun t => some t
noncomputable def e (K : Nat) : En M := fnE (X K) 7 Tryz.func7 ⟨.unit, [], (.ty .bool), []⟩ [] (fun x => f K) (fun x r => (r, ())) fun x => by
  rw [q0a, f]
  try simp only [el]
  kernel_rfl
end q21
namespace q6d
noncomputable def f (K : Nat) (a0 : Bool) (a1 : Int) : Option (Int) := bif !a0 then some (0 : Int) else some a1
noncomputable def e (K : Nat) : En M := fnE (m := 0) { hmx := mxd, nt := 8, cs := [] } 198 Tryz.func198 ⟨sh21, [], sh21, []⟩ [] (fun (x : ((Bool × Int) × Unit)) => f K x.1.1 x.1.2) (fun x r => ((x.1.1, r), ())) fun (x : ((Bool × Int) × Unit)) => by
  refine Eq.trans ?_ q0a.symm
  rw [f]
  try simp only [el]
  kernel_rfl
end q6d
namespace q9y
noncomputable def f (K : Nat) (a0 : Bool) (a1 : Int) : Option (Bool) := (q6d.f K a0 a1).bind fun t => some (bif false then !(a0 == a0 && a1 == t) else a0 == a0 && a1 == t)
noncomputable def e (K : Nat) : En M := fnE (m := 0) { hmx := mxd, nt := 7, cs := [q6d.e K] } 145 Tryz.func145 ⟨sh21, [], (.ty .bool), []⟩ [] (fun (x : ((Bool × Int) × Unit)) => f K x.1.1 x.1.2) (fun x r => (r, ())) fun (x : ((Bool × Int) × Unit)) => by
  refine Eq.trans ?_ q0a.symm
  rw [f]
  try simp only [el]
  kernel_rfl
end q9y
namespace q4q
noncomputable def X (K : Nat) : Fx M 0 := { hmx := mxd, nt := 21, cs := [q48.e K, q9y.e K, q0k.e K, q3r.e K], cp := [(1, [.bool], [2])] }
noncomputable def f (K : Nat) (a0 : Int) (a1 : Bool) (a2 : Int) (a3 : Int) (a4 : Int) (a5 : Int) : Option (Bool) := q02 ((q48.f K a0).bind fun t => bif t then (q9y.f K a1 a2).bind fun t => bif t then (q0k.f K a3 a4).bind fun t => bif t then (q3r.f K a5).bind fun t => some t else some false else some false else some false) fun t => some t
noncomputable def e (K : Nat) : En M := fnE (X K) 86 Tryz.func86 ⟨sh22, [], (.ty .bool), []⟩ [] (fun (x : ((Int × (Bool × (Int × (Int × (Int × Int))))) × Unit)) => f K x.1.1 x.1.2.1 x.1.2.2.1 x.1.2.2.2.1 x.1.2.2.2.2.1 x.1.2.2.2.2.2) (fun x r => (r, ())) fun (x : ((Int × (Bool × (Int × (Int × (Int × Int))))) × Unit)) => by
  refine Eq.trans ?_ q0a.symm
  rw [f]
  try simp only [el]
  kernel_rfl
end q4q
namespace q54
noncomputable def f (K : Nat) (a0 : Int) (a1 : Bool) (a2 : Int) (a3 : Int) (a4 : Int) (a5 : Int) : Option (Bool) := (q4q.f K a0 a1 a2 a3 a4 a5).bind fun t => some !t
noncomputable def e (K : Nat) : En M := fnE (m := 0) { hmx := mxd, nt := 6, cs := [q4q.e K] } 149 Tryz.func149 ⟨sh22, [], (.ty .bool), []⟩ [] (fun (x : ((Int × (Bool × (Int × (Int × (Int × Int))))) × Unit)) => f K x.1.1 x.1.2.1 x.1.2.2.1 x.1.2.2.2.1 x.1.2.2.2.2.1 x.1.2.2.2.2.2) (fun x r => (r, ())) fun (x : ((Int × (Bool × (Int × (Int × (Int × Int))))) × Unit)) => by
  refine Eq.trans ?_ q0a.symm
  rw [f]
  try simp only [el]
  kernel_rfl
end q54
namespace q7w
noncomputable def f (K : Nat) (a0 : Int) (a1 : Bool) (a2 : Int) (a3 : Int) (a4 : Int) (a5 : Int) : Option (Bool) := (q4q.f K a0 a1 a2 a3 a4 a5).bind fun t => some !t
noncomputable def e (K : Nat) : En M := fnE (m := 0) { hmx := mxd, nt := 6, cs := [q4q.e K] } 214 Tryz.func214 ⟨sh22, [], (.ty .bool), []⟩ [] (fun (x : ((Int × (Bool × (Int × (Int × (Int × Int))))) × Unit)) => f K x.1.1 x.1.2.1 x.1.2.2.1 x.1.2.2.2.1 x.1.2.2.2.2.1 x.1.2.2.2.2.2) (fun x r => (r, ())) fun (x : ((Int × (Bool × (Int × (Int × (Int × Int))))) × Unit)) => by
  refine Eq.trans ?_ q0a.symm
  rw [f]
  try simp only [el]
  kernel_rfl
end q7w
namespace q15
noncomputable def X (K : Nat) : Fx M 0 := { hmx := mxd, nt := 19, cs := [q7w.e K] }
noncomputable def l0.f (K : Nat) : Nat → List q0n → Int → Int → Option ((Unit) ⊕ (Int))
  | 0, _, _, _ => none
  | k + 1, a0, a1, a2 => bif decide (a2 < a1) then bif decide ((0 : Int) ≤ a2) && true then a0[a2.toNat]?.bind fun t => (q7w.f K t.1 t.2.1.1 t.2.1.2 t.2.2.1.1 t.2.2.1.2 t.2.2.2).bind fun t => bif t then some (Sum.inr a2) else l0.f K k a0 a1 (IntKind.i64.wrap (a2 + (1 : Int))) else none else some (Sum.inl ())
noncomputable def l0.b (K : Nat) : Lp M 0 := q25 (X K) 2 19 0 (q0q Tryz.f200 0) ⟨[0, 1, 7, 8], (.cons (.ty (.slice q1o)) (.cons (.fn 214 .unit .unit) (.cons (.ty yI) (.ty yI)))), []⟩ ss18 ⟨[4], (.ty yI), []⟩ K [] (fun k x => l0.f K k x.1.1 x.1.2.2.1 x.1.2.2.2) (fun x r => ((), ())) (fun x r => (r, ())) fun k x => by
  rw [q0a, l0.f]
  try simp only [el]
  kernel_rfl
noncomputable def f (K : Nat) (a0 : List q0n) : Option (Int) := (l0.f K K a0 (↑a0.length : Int) (0 : Int)).bind fun t => Sum.elim (fun t => some (-1 : Int)) (fun t => some t) t
noncomputable def e (K : Nat) : En M := fnE (X K) 200 Tryz.func200 ⟨(.cons (.ty (.slice q1o)) (.fn 214 .unit .unit)), [], (.ty yI), []⟩ [l0.b K] (fun x => f K x.1.1) (fun x r => (r, ())) fun x => by
  rw [q0a, f]
  try simp only [el]
  kernel_rfl
end q15
namespace q14
noncomputable def X (K : Nat) : Fx M 0 := { hmx := mxd, nt := 19, cs := [q54.e K] }
noncomputable def l0.f (K : Nat) : Nat → List q0n → Int → Int → Option ((Unit) ⊕ (Int))
  | 0, _, _, _ => none
  | k + 1, a0, a1, a2 => bif decide (a2 < a1) then bif decide ((0 : Int) ≤ a2) && true then a0[a2.toNat]?.bind fun t => (q54.f K t.1 t.2.1.1 t.2.1.2 t.2.2.1.1 t.2.2.1.2 t.2.2.2).bind fun t => bif t then some (Sum.inr a2) else l0.f K k a0 a1 (IntKind.i64.wrap (a2 + (1 : Int))) else none else some (Sum.inl ())
noncomputable def l0.b (K : Nat) : Lp M 0 := q25 (X K) 2 19 0 (q0q Tryz.f200 0) ⟨[0, 1, 7, 8], (.cons (.ty (.slice q1o)) (.cons (.fn 149 .unit .unit) (.cons (.ty yI) (.ty yI)))), []⟩ ss18 ⟨[4], (.ty yI), []⟩ K [] (fun k x => l0.f K k x.1.1 x.1.2.2.1 x.1.2.2.2) (fun x r => ((), ())) (fun x r => (r, ())) fun k x => by
  rw [q0a, l0.f]
  try simp only [el]
  kernel_rfl
noncomputable def f (K : Nat) (a0 : List q0n) : Option (Int) := (l0.f K K a0 (↑a0.length : Int) (0 : Int)).bind fun t => Sum.elim (fun t => some (-1 : Int)) (fun t => some t) t
noncomputable def e (K : Nat) : En M := fnE (X K) 200 Tryz.func200 ⟨(.cons (.ty (.slice q1o)) (.fn 149 .unit .unit)), [], (.ty yI), []⟩ [l0.b K] (fun x => f K x.1.1) (fun x r => (r, ())) fun x => by
  rw [q0a, f]
  try simp only [el]
  kernel_rfl
end q14
namespace q1e
noncomputable def f (K : Nat) (a0 : List q0n) : Option (Bool) := (q15.f K a0).bind fun t => some (decide (t ≥ (0 : Int)))
noncomputable def e (K : Nat) : En M := fnE (m := 0) { hmx := mxd, nt := 9, cs := [q15.e K] } 150 Tryz.func150 ⟨(.cons (.ty (.slice q1o)) (.fn 214 .unit .unit)), [], (.ty .bool), []⟩ [] (fun x => f K x.1.1) (fun x r => (r, ())) fun x => by
  rw [q0a, f]
  try simp only [el]
  kernel_rfl
end q1e
namespace q1f
noncomputable def f (K : Nat) (a0 : List q0n) : Option (Bool) := (q14.f K a0).bind fun t => some (decide (t ≥ (0 : Int)))
noncomputable def e (K : Nat) : En M := fnE (m := 0) { hmx := mxd, nt := 9, cs := [q14.e K] } 150 Tryz.func150 ⟨(.cons (.ty (.slice q1o)) (.fn 149 .unit .unit)), [], (.ty .bool), []⟩ [] (fun x => f K x.1.1) (fun x r => (r, ())) fun x => by
  rw [q0a, f]
  try simp only [el]
  kernel_rfl
end q1f
namespace q8m
noncomputable def X (K : Nat) : Fx M 0 := { hmx := mxd, nt := 37, cs := [q1f.e K, q54.e K], cp := [(7, [.bool], [15]), (8, [.bool], [15])] }
noncomputable def f (K : Nat) (a0 : Bool) (a1 : List q0n) (a2 : Bool) (a3 : Int) (a4 : Bool) (a5 : Int) (a6 : Int) (a7 : Int) (a8 : Int) (a9 : Int) : Option (Int) := bif !a0 then bif (↑a1.length : Int) != (0 : Int) then some (12 : Int) else (q1f.f K a1).bind fun t => bif t then some (13 : Int) else q02 (bif a2 then (q54.f K a3 a4 a5 a6 a7 a8).bind fun t => some t else some false) fun t => bif t then some (13 : Int) else q02 (bif !a2 then some (bif true then !(a3 == (0 : Int) && (a4 == false && a5 == (0 : Int) && (a6 == (0 : Int) && a7 == (0 : Int) && a8 == (0 : Int)))) else a3 == (0 : Int) && (a4 == false && a5 == (0 : Int) && (a6 == (0 : Int) && a7 == (0 : Int) && a8 == (0 : Int)))) else some false) fun t => bif t then some (13 : Int) else some (0 : Int) else bif (↑a1.length : Int) != a9 then some (12 : Int) else (q1f.f K a1).bind fun t => bif t then some (13 : Int) else q02 (bif a2 then (q54.f K a3 a4 a5 a6 a7 a8).bind fun t => some t else some false) fun t => bif t then some (13 : Int) else q02 (bif !a2 then some (bif true then !(a3 == (0 : Int) && (a4 == false && a5 == (0 : Int) && (a6 == (0 : Int) && a7 == (0 : Int) && a8 == (0 : Int)))) else a3 == (0 : Int) && (a4 == false && a5 == (0 : Int) && (a6 == (0 : Int) && a7 == (0 : Int) && a8 == (0 : Int)))) else some false) fun t => bif t then some (13 : Int) else some (0 : Int)
noncomputable def e (K : Nat) : En M := fnE (X K) 88 Tryz.func88 ⟨(.cons (.agg (.cons (.ty .bool) (.cons (.ty (.slice q1o)) (.cons (.ty .bool) (.cons (.ty yI) (.cons (.ty .bool) (.cons (.ty yI) (.cons (.ty yI) (.cons (.ty yI) (.ty yI)))))))))) (.ty yI)), [], (.ty yI), []⟩ [] (fun (x : (((Bool × ((List q0n) × (Bool × (Int × (Bool × (Int × (Int × (Int × Int)))))))) × Int) × Unit)) => f K x.1.1.1 x.1.1.2.1 x.1.1.2.2.1 x.1.1.2.2.2.1 x.1.1.2.2.2.2.1 x.1.1.2.2.2.2.2.1 x.1.1.2.2.2.2.2.2.1 x.1.1.2.2.2.2.2.2.2.1 x.1.1.2.2.2.2.2.2.2.2 x.1.2) (fun x r => (r, ())) fun (x : (((Bool × ((List q0n) × (Bool × (Int × (Bool × (Int × (Int × (Int × Int)))))))) × Int) × Unit)) => by
  refine Eq.trans ?_ q0a.symm
  rw [f]
  try simp only [el]
  kernel_rfl
end q8m
namespace q6k
noncomputable def f (K : Nat) (a0 : Int) : Option (Bool) := some (a0 != a0)
noncomputable def e (K : Nat) : En M := fnE (m := 0) { hmx := mxd, nt := 6, cs := [] } 205 Tryz.func205 ⟨(.ty yI), [], (.ty .bool), []⟩ [] (fun x => f K x.1) (fun x r => (r, ())) fun x => by
  rw [q0a, f]
  try simp only [el]
  kernel_rfl
end q6k
namespace q8s
noncomputable def X (K : Nat) : Fx M 0 := { hmx := mxd, nt := 17, cs := [q6k.e K], cp := [(1, [.bool], [4])] }
noncomputable def f (K : Nat) (a0 : Int) (a1 : Int) : Option (Bool) := q02 ((q6k.f K a0).bind fun t => bif t then (q6k.f K a1).bind fun t => bif !t then some true else some (decide (a0 < a1)) else some (decide (a0 < a1))) fun t => some t
noncomputable def e (K : Nat) : En M := fnE (X K) 172 Tryz.func172 ⟨(.cons (.ty yI) (.ty yI)), [], (.ty .bool), []⟩ [] (fun x => f K x.1.1 x.1.2) (fun x r => (r, ())) fun x => by
  rw [q0a, f]
  try simp only [el]
  kernel_rfl
end q8s
namespace q4z
noncomputable def f (K : Nat) (a0 : Int) : Option (Bool) := some (a0 != a0)
noncomputable def e (K : Nat) : En M := fnE (m := 0) { hmx := mxd, nt := 6, cs := [] } 173 Tryz.func173 ⟨(.ty yI), [], (.ty .bool), []⟩ [] (fun x => f K x.1) (fun x r => (r, ())) fun x => by
  rw [q0a, f]
  try simp only [el]
  kernel_rfl
end q4z
namespace q3a
noncomputable def X (K : Nat) : Fx M 0 := { hmx := mxd, nt := 54, cs := [q8s.e K, q4z.e K], cp := [(8, [yI, .bool], [4, 5])] }
noncomputable def l0.f (K : Nat) : Nat → List Int → Int → Int → Int → Option (Int)
  | 0, _, _, _, _ => none
  | k + 1, a0, a1, a3, a4 => bif decide (a3 < a4) then bif decide ((0 : Int) ≤ IntKind.i64.wrap ((IntKind.u64.wrap (IntKind.i64.wrap (a3 + a4))).fdiv ((2 : Int) ^ (1 : Nat)))) && true then a0[(IntKind.i64.wrap ((IntKind.u64.wrap (IntKind.i64.wrap (a3 + a4))).fdiv ((2 : Int) ^ (1 : Nat)))).toNat]?.bind fun t => (q8s.f K t a1).bind fun t => bif t then l0.f K k a0 a1 (IntKind.i64.wrap (IntKind.i64.wrap ((IntKind.u64.wrap (IntKind.i64.wrap (a3 + a4))).fdiv ((2 : Int) ^ (1 : Nat))) + (1 : Int))) a4 else l0.f K k a0 a1 a3 (IntKind.i64.wrap ((IntKind.u64.wrap (IntKind.i64.wrap (a3 + a4))).fdiv ((2 : Int) ^ (1 : Nat)))) else none else some a3
noncomputable def l0.b (K : Nat) : Lp M 0 := q2i (X K) 3 54 0 (q0q Tryz.f119 0) ⟨[0, 1, 6, 7, 8], (.cons (.ty (.slice yI)) (.cons (.ty yI) (.cons (.ty yI) (.cons (.ty yI) (.ty yI))))), []⟩ ⟨[0, 1, 6, 7], (.cons (.ty (.slice yI)) (.cons (.ty yI) (.cons (.ty yI) (.ty yI)))), []⟩ K [] (fun k x => l0.f K k x.1.1 x.1.2.1 x.1.2.2.2.1 x.1.2.2.2.2) (fun x r => ((x.1.1, x.1.2.1, x.1.2.2.1, r), ())) fun k x => by
  rw [q0a, l0.f]
  try simp only [el]
  kernel_rfl
noncomputable def f (K : Nat) (a0 : List Int) (a1 : Int) : Option (Int × Bool) := (l0.f K K a0 a1 (0 : Int) (↑a0.length : Int)).bind fun t => q02 (bif decide (t < (↑a0.length : Int)) then bif decide ((0 : Int) ≤ t) && true then a0[t.toNat]?.bind fun t_1 => bif t_1 == a1 then some (t, true) else bif decide ((0 : Int) ≤ t) && true then a0[t.toNat]?.bind fun t_2 => (q4z.f K t_2).bind fun t_3 => bif t_3 then (q4z.f K a1).bind fun t_4 => some (t, t_4) else some (t, false) else none else none else some (t, false)) fun t => some (t.1, t.2)
noncomputable def e (K : Nat) : En M := fnE (X K) 119 Tryz.func119 ⟨(.cons (.ty (.slice yI)) (.ty yI)), [], sh20, []⟩ [l0.b K] (fun x => f K x.1.1 x.1.2) (fun x r => ((r.1, r.2), ())) fun x => by
  rw [q0a, f]
  try simp only [el]
  kernel_rfl
end q3a
namespace z7b
noncomputable def f (K : Nat) (a0 : List Int) (a1 : Int) : Option (Bool) := (q3a.f K a0 a1).bind fun t => some t.2
noncomputable def e (K : Nat) : En M := fnE (m := 0) { hmx := mxd, nt := 14, cs := [q3a.e K] } 64 Tryz.func64 ⟨(.cons (.ty (.slice yI)) (.ty yI)), [], (.ty .bool), []⟩ [] (fun x => f K x.1.1 x.1.2) (fun x r => (r, ())) fun x => by
  rw [q0a, f]
  try simp only [el]
  kernel_rfl
end z7b
namespace q75
noncomputable def X (K : Nat) : Fx M 0 := { hmx := mxd, nt := 40, cs := [q2s.e K, q1e.e K], cp := [(3, [.bool], [23])] }
noncomputable def l0.f (K : Nat) : Nat → Int → List (List Int) → Int → Int → Option ((Unit) ⊕ (Bool))
  | 0, _, _, _, _ => none
  | k + 1, a0, a1, a2, a3 => bif decide (a3 < a2) then bif decide ((0 : Int) ≤ a3) && true then a1[a3.toNat]?.bind fun t => (q2s.f K a0 t).bind fun t => bif !t then some (Sum.inr false) else l0.f K k a0 a1 a2 (IntKind.i64.wrap (a3 + (1 : Int))) else none else some (Sum.inl ())
noncomputable def l0.b (K : Nat) : Lp M 0 := q25 (X K) 6 40 0 (q0q Tryz.f199 0) ⟨[2, 3, 25, 26, 27], (.cons (.ty yI) (.cons (.ptr 0 0) (.cons (.ty (.slice (.slice yI))) (.cons (.ty yI) (.ty yI))))), [.cells 109 0 sh4b]⟩ ⟨[3], (.ptr 0 0), [.cells 109 0 sh4b]⟩ ss4c K [] (fun k (x : ((Int × (Unit × ((List (List Int)) × (Int × Int)))) × ((Bool × ((List q0n) × (List (List Int)))) × Unit))) => l0.f K k x.1.1 x.1.2.2.1 x.1.2.2.2.1 x.1.2.2.2.2) (fun x r => ((), x.2)) (fun x r => (r, ())) fun k (x : ((Int × (Unit × ((List (List Int)) × (Int × Int)))) × ((Bool × ((List q0n) × (List (List Int)))) × Unit))) => by
  refine Eq.trans ?_ q0a.symm
  rw [l0.f]
  try simp only [el]
  kernel_rfl
noncomputable def f (K : Nat) (a0 : Bool) (a1 : List q0n) (a2 : List (List Int)) (a3 : Int) (a4 : Int) : Option (Bool) := bif !a0 then q02 (bif (↑a1.length : Int) != (0 : Int) then some true else some ((↑a2.length : Int) != (0 : Int))) fun t => bif t then some false else (l0.f K K a4 a2 (↑a2.length : Int) (0 : Int)).bind fun t => Sum.elim (fun t => (q1e.f K a1).bind fun t => some !t) (fun t => some t) t else q02 (bif (↑a1.length : Int) != a3 then some true else some ((↑a2.length : Int) != a3)) fun t => bif t then some false else (l0.f K K a4 a2 (↑a2.length : Int) (0 : Int)).bind fun t => Sum.elim (fun t => (q1e.f K a1).bind fun t => some !t) (fun t => some t) t
noncomputable def e (K : Nat) : En M := fnE (X K) 199 Tryz.func199 ⟨(.cons (.agg (.cons (.ty .bool) (.cons (.ty (.slice q1o)) (.ty (.slice (.slice yI)))))) (.cons (.ty yI) (.ty yI))), [], (.ty .bool), []⟩ [l0.b K] (fun (x : (((Bool × ((List q0n) × (List (List Int)))) × (Int × Int)) × Unit)) => f K x.1.1.1 x.1.1.2.1 x.1.1.2.2 x.1.2.1 x.1.2.2) (fun x r => (r, ())) fun (x : (((Bool × ((List q0n) × (List (List Int)))) × (Int × Int)) × Unit)) => by
  refine Eq.trans ?_ q0a.symm
  rw [f]
  try simp only [el]
  kernel_rfl
end q75
namespace q41
noncomputable def X (K : Nat) : Fx M 0 := { hmx := mxd, nt := 63, cs := [q75.e K, q2s.e K], cp := [(4, [.bool], [15]), (9, [.bool], [45])] }
noncomputable def f (K : Nat) (a3 : Int) (a4 : Bool) (a7 : Int) (a9 : Bool) (a10 : List q0n) (a11 : List (List Int)) (a12 : List Int) (a13 : Bool) : Option (Int) := bif a9 then q02 (bif (↑a10.length : Int) != a7 then some true else some ((↑a11.length : Int) != a7)) fun t => bif t then some (12 : Int) else (q75.f K a9 a10 a11 a7 a3).bind fun t => bif !t then some (13 : Int) else (q2s.f K a7 a12).bind fun t => bif !t then some (13 : Int) else q02 (bif a4 then bif !a13 then bif a9 then some true else some (decide ((↑a12.length : Int) > (0 : Int))) else some false else some false) fun t => bif t then some (12 : Int) else some (0 : Int) else q02 (bif (↑a10.length : Int) != (0 : Int) then some true else some ((↑a11.length : Int) != (0 : Int))) fun t => bif t then some (12 : Int) else (q75.f K a9 a10 a11 a7 a3).bind fun t => bif !t then some (13 : Int) else (q2s.f K a7 a12).bind fun t => bif !t then some (13 : Int) else q02 (bif a4 then bif !a13 then bif a9 then some true else some (decide ((↑a12.length : Int) > (0 : Int))) else some false else some false) fun t => bif t then some (12 : Int) else some (0 : Int)
noncomputable def e (K : Nat) : En M := fnE (X K) 148 Tryz.func148 ⟨(.cons (.agg (.cons (.ty (.slice yI)) (.cons (.ty (.slice q3c)) (.cons (.ty (.slice q19)) (.cons (.ty yI) (.ty .bool)))))) (.cons (.agg (.cons (.ty .str) (.cons (.ty yI) (.cons (.ty yI) (.ty (.slice q2f)))))) (.cons (.agg (.cons (.ty .bool) (.cons (.ty (.slice q1o)) (.cons (.ty (.slice (.slice yI))) (.ty (.slice yI)))))) (.ty .bool)))), [], (.ty yI), []⟩ [] (fun (x : ((((List Int) × ((List q0v) × ((List q0i) × (Int × Bool)))) × ((ByteArray × (Int × (Int × (List q1b)))) × ((Bool × ((List q0n) × ((List (List Int)) × (List Int)))) × Bool))) × Unit)) => f K x.1.1.2.2.2.1 x.1.1.2.2.2.2 x.1.2.1.2.2.1 x.1.2.2.1.1 x.1.2.2.1.2.1 x.1.2.2.1.2.2.1 x.1.2.2.1.2.2.2 x.1.2.2.2) (fun x r => (r, ())) fun (x : ((((List Int) × ((List q0v) × ((List q0i) × (Int × Bool)))) × ((ByteArray × (Int × (Int × (List q1b)))) × ((Bool × ((List q0n) × ((List (List Int)) × (List Int)))) × Bool))) × Unit)) => by
  refine Eq.trans ?_ q0a.symm
  rw [f]
  try simp only [el]
  kernel_rfl
end q41
namespace q35
noncomputable def X (K : Nat) : Fx M 0 := { hmx := mxd, nt := 54, cs := [q8m.e K, q4m.e K, z7b.e K, q41.e K, q0y.e K] }
noncomputable def l0.f (K : Nat) : Nat → List Int → List q1c → Int → Int → Int → Bool → Int → Option ((Unit) ⊕ (Err))
  | 0, _, _, _, _, _, _, _ => none
  | k + 1, a0, a1, a2, a3, a7, a8, a11 => bif decide (a3 < a2) then bif decide ((0 : Int) ≤ a3) && true then a1[a3.toNat]?.bind fun t => (z7b.f K a0 a3).bind fun t_1 => (q41.f K a7 a8 a11 t.1.1 t.1.2.1 t.1.2.2 t.2 t_1).bind fun t => bif t != (0 : Int) then (q0y.f K (Err.no t) [a3]).bind fun t => some (Sum.inr t) else l0.f K k a0 a1 a2 (IntKind.i64.wrap (a3 + (1 : Int))) a7 a8 a11 else none else some (Sum.inl ())
noncomputable def l0.b (K : Nat) : Lp M 0 := q25 (X K) 8 54 0 (q0q Tryz.f87 0) ⟨[3, 4, 8, 32, 33, 34], (.cons (.ptr 0 0) (.cons (.ptr 1 0) (.cons (.ty (.slice yI)) (.cons (.ty (.slice q2z)) (.cons (.ty yI) (.ty yI)))))), [.cells 209 0 sh4d, hh1a]⟩ ss18 ss1d K [] (fun k (x : ((Unit × (Unit × ((List Int) × ((List q1c) × (Int × Int))))) × (((List Int) × ((List q0v) × ((List q0i) × (Int × Bool)))) × ((ByteArray × (Int × (Int × (List q1b)))) × Unit)))) => l0.f K k x.1.2.2.1 x.1.2.2.2.1 x.1.2.2.2.2.1 x.1.2.2.2.2.2 x.2.1.2.2.2.1 x.2.1.2.2.2.2 x.2.2.1.2.2.1) (fun x r => ((), ())) (fun x r => (r, ())) fun k (x : ((Unit × (Unit × ((List Int) × ((List q1c) × (Int × Int))))) × (((List Int) × ((List q0v) × ((List q0i) × (Int × Bool)))) × ((ByteArray × (Int × (Int × (List q1b)))) × Unit)))) => by
  refine Eq.trans ?_ q0a.symm
  rw [l0.f]
  try simp only [el]
  kernel_rfl
noncomputable def f (K : Nat) (a3 : Int) (a4 : Bool) (a6 : Int) (a7 : Int) (a8 : List q1b) (a9 : Bool) (a10 : List q0n) (a11 : Bool) (a12 : Int) (a13 : Bool) (a14 : Int) (a15 : Int) (a16 : Int) (a17 : Int) (a18 : List q1c) : Option (Err) := (q8m.f K a9 a10 a11 a12 a13 a14 a15 a16 a17 a6).bind fun t => bif t != (0 : Int) then some (Err.no t) else bif (↑a18.length : Int) != (↑a8.length : Int) then some (Err.no (12 : Int)) else (q4m.f K a8).bind fun t => (l0.f K K t a18 (↑a18.length : Int) (0 : Int) a3 a4 a7).bind fun t => Sum.elim (fun t => some Err.nil) (fun t => some t) t
noncomputable def e (K : Nat) : En M := fnE (X K) 87 Tryz.func87 ⟨(.cons (.agg (.cons (.ty (.slice yI)) (.cons (.ty (.slice q3c)) (.cons (.ty (.slice q19)) (.cons (.ty yI) (.ty .bool)))))) (.cons (.agg (.cons (.ty .str) (.cons (.ty yI) (.cons (.ty yI) (.ty (.slice q2f)))))) (.agg (.cons (.ty .bool) (.cons (.ty (.slice q1o)) (.cons (.ty .bool) (.cons (.ty yI) (.cons (.ty .bool) (.cons (.ty yI) (.cons (.ty yI) (.cons (.ty yI) (.cons (.ty yI) (.ty (.slice q2z)))))))))))))), [], (.ty .err), []⟩ [l0.b K] (fun (x : ((((List Int) × ((List q0v) × ((List q0i) × (Int × Bool)))) × ((ByteArray × (Int × (Int × (List q1b)))) × (Bool × ((List q0n) × (Bool × (Int × (Bool × (Int × (Int × (Int × (Int × (List q1c)))))))))))) × Unit)) => f K x.1.1.2.2.2.1 x.1.1.2.2.2.2 x.1.2.1.2.1 x.1.2.1.2.2.1 x.1.2.1.2.2.2 x.1.2.2.1 x.1.2.2.2.1 x.1.2.2.2.2.1 x.1.2.2.2.2.2.1 x.1.2.2.2.2.2.2.1 x.1.2.2.2.2.2.2.2.1 x.1.2.2.2.2.2.2.2.2.1 x.1.2.2.2.2.2.2.2.2.2.1 x.1.2.2.2.2.2.2.2.2.2.2.1 x.1.2.2.2.2.2.2.2.2.2.2.2) (fun x r => (r, ())) fun (x : ((((List Int) × ((List q0v) × ((List q0i) × (Int × Bool)))) × ((ByteArray × (Int × (Int × (List q1b)))) × (Bool × ((List q0n) × (Bool × (Int × (Bool × (Int × (Int × (Int × (Int × (List q1c)))))))))))) × Unit)) => by
  refine Eq.trans ?_ q0a.symm
  rw [f]
  try simp only [el]
  kernel_rfl
end q35
namespace q9v
noncomputable def X (K : Nat) : Fx M 0 := { hmx := mxd, nt := 116, cs := [q23.e K, q4q.e K, q0y.e K, q4l.e K, q35.e K, q8m.e K], cp := [(4, [.bool], [46])] }
noncomputable def l2.f (K : Nat) : Nat → List LSum → Int → Int → List q0i → Option ((Unit) ⊕ (Err))
  | 0, _, _, _, _ => none
  | k + 1, a0, a1, a2, a5 => bif decide (a2 < a1) then bif decide ((0 : Int) ≤ a2) && true then a0[a2.toNat]?.bind fun t => bif decide ((0 : Int) ≤ a2) && true then a5[a2.toNat]?.bind fun t_1 => (q8m.f K t.1 t.2.1 t.2.2.1 t.2.2.2.1 t.2.2.2.2.1.1 t.2.2.2.2.1.2 t.2.2.2.2.2.1.1 t.2.2.2.2.2.1.2 t.2.2.2.2.2.2 t_1.2).bind fun t => bif t != (0 : Int) then (q0y.f K (Err.no t) [(2 : Int), a2]).bind fun t => some (Sum.inr t) else l2.f K k a0 a1 (IntKind.i64.wrap (a2 + (1 : Int))) a5 else none else none else some (Sum.inl ())
noncomputable def l2.b (K : Nat) : Lp M 0 := q25 (X K) 21 116 4 (q0q Tryz.f32 2) ⟨[3, 93, 94, 95], sh4f, [hh17]⟩ ss18 ss1d K [] (fun k x => l2.f K k x.1.2.1 x.1.2.2.1 x.1.2.2.2 x.2.1.2.2) (fun x r => ((), ())) (fun x r => (r, ())) fun k x => by
  rw [q0a, l2.f]
  try simp only [el]
  kernel_rfl
noncomputable def l1.f (K : Nat) : Nat → List q0z → Int → Int → List q0v → Int → Bool → Option ((Unit) ⊕ (Err))
  | 0, _, _, _, _, _, _ => none
  | k + 1, a0, a1, a2, a4, a12, a13 => bif decide (a2 < a1) then bif decide ((0 : Int) ≤ a2) && true then a0[a2.toNat]?.bind fun t => bif decide ((0 : Int) ≤ a2) && true then a4[a2.toNat]?.bind fun t_1 => (q35.f K a12 a13 t_1.2.1 t_1.2.2.1 t_1.2.2.2 t.1.1 t.1.2.1 t.1.2.2.1 t.1.2.2.2.1 t.1.2.2.2.2.1.1 t.1.2.2.2.2.1.2 t.1.2.2.2.2.2.1.1 t.1.2.2.2.2.2.1.2 t.1.2.2.2.2.2.2 t.2).bind fun t => bif bif true then !t.isNil else t.isNil then (q0y.f K t [(1 : Int), a2]).bind fun t => some (Sum.inr t) else l1.f K k a0 a1 (IntKind.i64.wrap (a2 + (1 : Int))) a4 a12 a13 else none else none else some (Sum.inl ())
noncomputable def l1.b (K : Nat) : Lp M 0 := q25 (X K) 14 116 2 (q0q Tryz.f32 1) ⟨[3, 4, 10, 70, 71, 72], (.cons (.ptr 0 0) (.cons (.ptr 1 0) (.cons (.ptr 2 0) (.cons (.ty (.slice q3q)) (.cons (.ty yI) (.ty yI)))))), [hh17, hh50, .cells 209 0 sh4d]⟩ ⟨[3, 4], sh1c, [hh17, hh50]⟩ ss1d K [] (fun k (x : ((Unit × (Unit × (Unit × ((List q0z) × (Int × Int))))) × (((List Int) × ((List q0v) × (List q0i))) × (((List q0n) × ((List q0z) × (List LSum))) × (((List Int) × ((List q0v) × ((List q0i) × (Int × Bool)))) × Unit))))) => l1.f K k x.1.2.2.2.1 x.1.2.2.2.2.1 x.1.2.2.2.2.2 x.2.1.2.1 x.2.2.2.1.2.2.2.1 x.2.2.2.1.2.2.2.2) (fun x r => (((), ()), x.2.1, x.2.2.1, ())) (fun x r => (r, ())) fun k (x : ((Unit × (Unit × (Unit × ((List q0z) × (Int × Int))))) × (((List Int) × ((List q0v) × (List q0i))) × (((List q0n) × ((List q0z) × (List LSum))) × (((List Int) × ((List q0v) × ((List q0i) × (Int × Bool)))) × Unit))))) => by
  refine Eq.trans ?_ q0a.symm
  rw [l1.f]
  try simp only [el]
  kernel_rfl
noncomputable def l0.f (K : Nat) : Nat → List q0n → Int → Int → Option ((Unit) ⊕ (Err))
  | 0, _, _, _ => none
  | k + 1, a1, a2, a3 => bif decide (a3 < a2) then bif decide ((0 : Int) ≤ a3) && true then a1[a3.toNat]?.bind fun t => (q4q.f K t.1 t.2.1.1 t.2.1.2 t.2.2.1.1 t.2.2.1.2 t.2.2.2).bind fun t => bif !t then (q0y.f K (Err.no (13 : Int)) [(0 : Int), a3]).bind fun t => some (Sum.inr t) else l0.f K k a1 a2 (IntKind.i64.wrap (a3 + (1 : Int))) else none else some (Sum.inl ())
noncomputable def l0.b (K : Nat) : Lp M 0 := q25 (X K) 7 116 0 (q0q Tryz.f32 0) ⟨[2, 3, 4, 49, 50, 51], (.cons (.ty .bool) (.cons (.ptr 0 0) (.cons (.ptr 1 0) (.cons (.ty (.slice q1o)) (.cons (.ty yI) (.ty yI)))))), [hh17, hh50]⟩ ⟨[2, 3, 4], (.cons (.ty .bool) (.cons (.ptr 0 0) (.ptr 1 0))), [hh17, hh50]⟩ ss1d K [] (fun k (x : ((Bool × (Unit × (Unit × ((List q0n) × (Int × Int))))) × (((List Int) × ((List q0v) × (List q0i))) × (((List q0n) × ((List q0z) × (List LSum))) × Unit)))) => l0.f K k x.1.2.2.2.1 x.1.2.2.2.2.1 x.1.2.2.2.2.2) (fun x r => ((x.1.1, (), ()), x.2)) (fun x r => (r, ())) fun k (x : ((Bool × (Unit × (Unit × ((List q0n) × (Int × Int))))) × (((List Int) × ((List q0v) × (List q0i))) × (((List q0n) × ((List q0z) × (List LSum))) × Unit)))) => by
  refine Eq.trans ?_ q0a.symm
  rw [l0.f]
  try simp only [el]
  kernel_rfl
noncomputable def f (K : Nat) (a0 : List Int) (a1 : List q0v) (a2 : List q0i) (a3 : List q0n) (a4 : List q0z) (a5 : List LSum) (a6 : Bool) : Option (Err) := (q23.f K a0 a1 a2).bind fun t => bif bif true then !t.isNil else t.isNil then some t else q02 (bif (↑a3.length : Int) != (↑a0.length : Int) then some true else bif (↑a4.length : Int) != (↑a1.length : Int) then some true else some ((↑a5.length : Int) != (↑a2.length : Int))) fun t => bif t then some (Err.no (12 : Int)) else (l0.f K K a3 (↑a3.length : Int) (0 : Int)).bind fun t => Sum.elim (fun t => (q4l.f K a1).bind fun t => (l1.f K K a4 (↑a4.length : Int) (0 : Int) a1 t a6).bind fun t => Sum.elim (fun t => (l2.f K K a5 (↑a5.length : Int) (0 : Int) a2).bind fun t => Sum.elim (fun t => some Err.nil) (fun t => some t) t) (fun t => some t) t) (fun t => some t) t
noncomputable def e (K : Nat) : En M := fnE (X K) 32 Tryz.func32 ⟨sh4e, [], (.ty .err), []⟩ [l0.b K, l1.b K, l2.b K] (fun (x : ((((List Int) × ((List q0v) × (List q0i))) × (((List q0n) × ((List q0z) × (List LSum))) × Bool)) × Unit)) => f K x.1.1.1 x.1.1.2.1 x.1.1.2.2 x.1.2.1.1 x.1.2.1.2.1 x.1.2.1.2.2 x.1.2.2) (fun x r => (r, ())) fun (x : ((((List Int) × ((List q0v) × (List q0i))) × (((List q0n) × ((List q0z) × (List LSum))) × Bool)) × Unit)) => by
  refine Eq.trans ?_ q0a.symm
  rw [f]
  try simp only [el]
  kernel_rfl
end q9v
namespace q6s
noncomputable def X (K : Nat) : Fx M 2 := { hmx := mxd, nt := 68, cs := [q4q.e K, q0o.e K, q1t.e K] }
noncomputable def l0.f (K : Nat) : Nat → Int → Int → List Int → List Int → Option (List Int)
  | 0, _, _, _, _ => none
  | k + 1, a0, a1, a2, a3 => bif decide (a1 < a0) then bif decide ((0 : Int) ≤ a1) then bif a1.toNat.blt a2.length then a2[a1.toNat]?.bind fun t => (q1t.f K t a3).bind fun t => l0.f K k a0 (IntKind.i64.wrap (a1 + (1 : Int))) a2 t else none else none else some a3
noncomputable def l0.b (K : Nat) : Lp M 2 := q2i (X K) 13 68 0 (q0q Tryz.f38 0) ⟨[0, 58, 59, 60], sh51, [hh3b, .dead, .list 2 yI [], .list 5 (.int .u8) []]⟩ ⟨[], .unit, hs2e⟩ K [] (fun k x => l0.f K k x.1.2.2.1 x.1.2.2.2 x.2.2.2.1 x.2.2.2.2.1) (fun x r => ((), (), (), r, ())) fun k x => by
  rw [q0a, l0.f]
  try simp only [el]
  kernel_rfl
noncomputable def f (K : Nat) (a0 : Int) (a1 : Bool) (a2 : Int) (a3 : Int) (a4 : Int) (a5 : Int) (a6 : List Int) : Option (Err × List Int) := (q4q.f K a0 a1 a2 a3 a4 a5).bind fun t => bif !t then some (Err.no (13 : Int), a6) else bif a1 then bif a3 != (-9223372036854775808 : Int) then bif a4 != (9223372036854775807 : Int) then (q0o.f K (IntKind.u8.wrap (IntKind.i64.wrap (↑(BitVec.ofInt (64 : Nat) (IntKind.i64.wrap (↑(BitVec.ofInt (64 : Nat) (IntKind.i64.wrap (↑(BitVec.ofInt (64 : Nat) (IntKind.i64.wrap (↑(BitVec.ofInt (64 : Nat) a0 ||| BitVec.ofInt (64 : Nat) (IntKind.i64.wrap (a5 * (2 : Int) ^ (4 : Nat)))).toNat : Int)) ||| BitVec.ofInt (64 : Nat) (8 : Int)).toNat : Int)) ||| BitVec.ofInt (64 : Nat) (64 : Int)).toNat : Int)) ||| BitVec.ofInt (64 : Nat) (128 : Int)).toNat : Int))) a6).bind fun t => (l0.f K K (↑([] ++ [a2] ++ [a3] ++ [a4]).length : Int) (0 : Int) ([] ++ [a2] ++ [a3] ++ [a4]) t).bind fun t => some (Err.nil, t) else (q0o.f K (IntKind.u8.wrap (IntKind.i64.wrap (↑(BitVec.ofInt (64 : Nat) (IntKind.i64.wrap (↑(BitVec.ofInt (64 : Nat) (IntKind.i64.wrap (↑(BitVec.ofInt (64 : Nat) a0 ||| BitVec.ofInt (64 : Nat) (IntKind.i64.wrap (a5 * (2 : Int) ^ (4 : Nat)))).toNat : Int)) ||| BitVec.ofInt (64 : Nat) (8 : Int)).toNat : Int)) ||| BitVec.ofInt (64 : Nat) (64 : Int)).toNat : Int))) a6).bind fun t => (l0.f K K (↑([] ++ [a2] ++ [a3]).length : Int) (0 : Int) ([] ++ [a2] ++ [a3]) t).bind fun t => some (Err.nil, t) else bif a4 != (9223372036854775807 : Int) then (q0o.f K (IntKind.u8.wrap (IntKind.i64.wrap (↑(BitVec.ofInt (64 : Nat) (IntKind.i64.wrap (↑(BitVec.ofInt (64 : Nat) (IntKind.i64.wrap (↑(BitVec.ofInt (64 : Nat) a0 ||| BitVec.ofInt (64 : Nat) (IntKind.i64.wrap (a5 * (2 : Int) ^ (4 : Nat)))).toNat : Int)) ||| BitVec.ofInt (64 : Nat) (8 : Int)).toNat : Int)) ||| BitVec.ofInt (64 : Nat) (128 : Int)).toNat : Int))) a6).bind fun t => (l0.f K K (↑([] ++ [a2] ++ [a4]).length : Int) (0 : Int) ([] ++ [a2] ++ [a4]) t).bind fun t => some (Err.nil, t) else (q0o.f K (IntKind.u8.wrap (IntKind.i64.wrap (↑(BitVec.ofInt (64 : Nat) (IntKind.i64.wrap (↑(BitVec.ofInt (64 : Nat) a0 ||| BitVec.ofInt (64 : Nat) (IntKind.i64.wrap (a5 * (2 : Int) ^ (4 : Nat)))).toNat : Int)) ||| BitVec.ofInt (64 : Nat) (8 : Int)).toNat : Int))) a6).bind fun t => (l0.f K K (↑([] ++ [a2]).length : Int) (0 : Int) ([] ++ [a2]) t).bind fun t => some (Err.nil, t) else bif a3 != (-9223372036854775808 : Int) then bif a4 != (9223372036854775807 : Int) then (q0o.f K (IntKind.u8.wrap (IntKind.i64.wrap (↑(BitVec.ofInt (64 : Nat) (IntKind.i64.wrap (↑(BitVec.ofInt (64 : Nat) (IntKind.i64.wrap (↑(BitVec.ofInt (64 : Nat) a0 ||| BitVec.ofInt (64 : Nat) (IntKind.i64.wrap (a5 * (2 : Int) ^ (4 : Nat)))).toNat : Int)) ||| BitVec.ofInt (64 : Nat) (64 : Int)).toNat : Int)) ||| BitVec.ofInt (64 : Nat) (128 : Int)).toNat : Int))) a6).bind fun t => (l0.f K K (↑([] ++ [a3] ++ [a4]).length : Int) (0 : Int) ([] ++ [a3] ++ [a4]) t).bind fun t => some (Err.nil, t) else (q0o.f K (IntKind.u8.wrap (IntKind.i64.wrap (↑(BitVec.ofInt (64 : Nat) (IntKind.i64.wrap (↑(BitVec.ofInt (64 : Nat) a0 ||| BitVec.ofInt (64 : Nat) (IntKind.i64.wrap (a5 * (2 : Int) ^ (4 : Nat)))).toNat : Int)) ||| BitVec.ofInt (64 : Nat) (64 : Int)).toNat : Int))) a6).bind fun t => (l0.f K K (↑([] ++ [a3]).length : Int) (0 : Int) ([] ++ [a3]) t).bind fun t => some (Err.nil, t) else bif a4 != (9223372036854775807 : Int) then (q0o.f K (IntKind.u8.wrap (IntKind.i64.wrap (↑(BitVec.ofInt (64 : Nat) (IntKind.i64.wrap (↑(BitVec.ofInt (64 : Nat) a0 ||| BitVec.ofInt (64 : Nat) (IntKind.i64.wrap (a5 * (2 : Int) ^ (4 : Nat)))).toNat : Int)) ||| BitVec.ofInt (64 : Nat) (128 : Int)).toNat : Int))) a6).bind fun t => (l0.f K K (↑([] ++ [a4]).length : Int) (0 : Int) ([] ++ [a4]) t).bind fun t => some (Err.nil, t) else (q0o.f K (IntKind.u8.wrap (IntKind.i64.wrap (↑(BitVec.ofInt (64 : Nat) a0 ||| BitVec.ofInt (64 : Nat) (IntKind.i64.wrap (a5 * (2 : Int) ^ (4 : Nat)))).toNat : Int))) a6).bind fun t => (l0.f K K (↑(0 : Nat) : Int) (0 : Int) [] t).bind fun t => some (Err.nil, t)
noncomputable def e (K : Nat) : En M := fnE (X K) 38 Tryz.func38 ⟨(.cons (.ptr 0 0) (.agg (.cons (.ty yI) (.cons (.ty .bool) (.cons (.ty yI) (.cons (.ty yI) (.cons (.ty yI) (.ty yI)))))))), hs2d, (.ty .err), hs2e⟩ [l0.b K] (fun (x : ((Unit × (Int × (Bool × (Int × (Int × (Int × Int)))))) × (Unit × ((List Int) × Unit)))) => f K x.1.2.1 x.1.2.2.1 x.1.2.2.2.1 x.1.2.2.2.2.1 x.1.2.2.2.2.2.1 x.1.2.2.2.2.2.2 x.2.2.1) (fun x r => (r.1, (), (), r.2, ())) fun (x : ((Unit × (Int × (Bool × (Int × (Int × (Int × Int)))))) × (Unit × ((List Int) × Unit)))) => by
  refine Eq.trans ?_ q0a.symm
  rw [f]
  try simp only [el]
  kernel_rfl
end q6s
namespace z0d
noncomputable def X (K : Nat) : Fx M 2 := { hmx := mxd, nt := 37, cs := [q0o.e K, q6s.e K] }
noncomputable def l0.f (K : Nat) : Nat → Int → Int → List q0n → List Int → Option (List Int)
  | 0, _, _, _, _ => none
  | k + 1, a0, a1, a2, a3 => bif decide (a1 < a0) then bif decide ((0 : Int) ≤ a1) then bif a1.toNat.blt a2.length then a2[a1.toNat]?.bind fun t => (q6s.f K t.1 t.2.1.1 t.2.1.2 t.2.2.1.1 t.2.2.1.2 t.2.2.2 a3).bind fun t => l0.f K k a0 (IntKind.i64.wrap (a1 + (1 : Int))) a2 t.2 else none else none else some a3
noncomputable def l0.b (K : Nat) : Lp M 2 := q2i (X K) 8 37 0 (q0q Tryz.f39 0) ⟨[0, 27, 28, 29], sh51, [hh3b, .dead, .list 74 q1o [], .list 5 (.int .u8) []]⟩ ⟨[], .unit, hs2e⟩ K [] (fun k x => l0.f K k x.1.2.2.1 x.1.2.2.2 x.2.2.2.1 x.2.2.2.2.1) (fun x r => ((), (), (), r, ())) fun k x => by
  rw [q0a, l0.f]
  try simp only [el]
  kernel_rfl
noncomputable def f (K : Nat) (a0 : Bool) (a1 : List q0n) (a2 : Bool) (a3 : Int) (a4 : Bool) (a5 : Int) (a6 : Int) (a7 : Int) (a8 : Int) (a9 : List Int) : Option (List Int) := bif a0 then bif ((0 : Nat) + a1.length).ble (4000000 : Nat) then bif a2 then bif (([] ++ a1).length + [(a3, (a4, a5), (a6, a7), a8)].length).ble (4000000 : Nat) then (q0o.f K (IntKind.u8.wrap (IntKind.i64.wrap (↑(3 : Nat) : Int))) a9).bind fun t => l0.f K K (↑([] ++ a1 ++ [(a3, (a4, a5), (a6, a7), a8)]).length : Int) (0 : Int) ([] ++ a1 ++ [(a3, (a4, a5), (a6, a7), a8)]) t else none else (q0o.f K (IntKind.u8.wrap (1 : Int)) a9).bind fun t => l0.f K K (↑([] ++ a1).length : Int) (0 : Int) ([] ++ a1) t else none else bif a2 then (q0o.f K (IntKind.u8.wrap (IntKind.i64.wrap (↑(2 : Nat) : Int))) a9).bind fun t => l0.f K K (↑([] ++ [(a3, (a4, a5), (a6, a7), a8)]).length : Int) (0 : Int) ([] ++ [(a3, (a4, a5), (a6, a7), a8)]) t else (q0o.f K (IntKind.u8.wrap (0 : Int)) a9).bind fun t => l0.f K K (↑(0 : Nat) : Int) (0 : Int) [] t
noncomputable def e (K : Nat) : En M := fnE (X K) 39 Tryz.func39 ⟨(.cons (.ptr 0 0) (.agg (.cons (.ty .bool) (.cons (.ty (.slice q1o)) (.cons (.ty .bool) (.cons (.ty yI) (.cons (.ty .bool) (.cons (.ty yI) (.cons (.ty yI) (.cons (.ty yI) (.ty yI))))))))))), hs2d, .unit, hs2e⟩ [l0.b K] (fun (x : ((Unit × (Bool × ((List q0n) × (Bool × (Int × (Bool × (Int × (Int × (Int × Int))))))))) × (Unit × ((List Int) × Unit)))) => f K x.1.2.1 x.1.2.2.1 x.1.2.2.2.1 x.1.2.2.2.2.1 x.1.2.2.2.2.2.1 x.1.2.2.2.2.2.2.1 x.1.2.2.2.2.2.2.2.1 x.1.2.2.2.2.2.2.2.2.1 x.1.2.2.2.2.2.2.2.2.2 x.2.2.1) (fun x r => ((), (), (), r, ())) fun (x : ((Unit × (Bool × ((List q0n) × (Bool × (Int × (Bool × (Int × (Int × (Int × Int))))))))) × (Unit × ((List Int) × Unit)))) => by
  refine Eq.trans ?_ q0a.symm
  rw [f]
  try simp only [el]
  kernel_rfl
end z0d
namespace q7g
noncomputable def f (K : Nat) (a0 : Int) (a1 : List Int) (a2 : List Int) : Option (Err × List Int) := (q2s.f K a0 a1).bind fun t => bif !t then some (Err.no (1 : Int), a2) else (q4j.f K a0 a1).bind fun t => (q3m.f K a0 a1 t).bind fun t => (q2n.f K t a2).bind fun t => some (Err.nil, t)
noncomputable def e (K : Nat) : En M := fnE (m := 2) { hmx := mxd, nt := 20, cs := [q2s.e K, q4j.e K, q3m.e K, q2n.e K] } 89 Tryz.func89 ⟨(.cons (.ptr 0 0) (.cons (.ty yI) (.ty (.slice yI)))), hs2d, (.ty .err), hs2e⟩ [] (fun x => f K x.1.2.1 x.1.2.2 x.2.2.1) (fun x r => (r.1, (), (), r.2, ())) fun x => by
  rw [q0a, f]
  try simp only [el]
  kernel_rfl
end q7g
namespace q93
noncomputable def X (K : Nat) : Fx M 2 := { hmx := mxd, nt := 50, cs := [q0o.e K, q6s.e K, q7g.e K] }
noncomputable def l1.f (K : Nat) : Nat → Int → List (List Int) → Int → Int → List Int → Option (List Int)
  | 0, _, _, _, _, _ => none
  | k + 1, a1, a2, a3, a4, a9 => bif decide (a4 < a3) then bif decide ((0 : Int) ≤ a4) && true then a2[a4.toNat]?.bind fun t => (q7g.f K a1 t a9).bind fun t => l1.f K k a1 a2 a3 (IntKind.i64.wrap (a4 + (1 : Int))) t.2 else none else some a9
noncomputable def l1.b (K : Nat) : Lp M 2 := q2i (X K) 10 50 2 (q0q Tryz.f41 1) ⟨[0, 2, 3, 5, 34, 35, 36], (.cons (.ptr 0 0) (.cons (.ty yI) (.cons (.ty yI) (.cons (.ptr 2 0) (.cons (.ty (.slice (.slice yI))) (.cons (.ty yI) (.ty yI))))))), hs53⟩ ⟨[0, 2, 5], (.cons (.ptr 0 0) (.cons (.ty yI) (.ptr 2 0))), hs53⟩ K [] (fun k (x : ((Unit × (Int × (Int × (Unit × ((List (List Int)) × (Int × Int)))))) × (Unit × (Unit × ((Bool × ((List q0n) × ((List (List Int)) × (List Int)))) × ((List Int) × Unit)))))) => l1.f K k x.1.2.2.1 x.1.2.2.2.2.1 x.1.2.2.2.2.2.1 x.1.2.2.2.2.2.2 x.2.2.2.2.1) (fun x r => (((), x.1.2.1, ()), (), (), x.2.2.2.1, r, ())) fun k (x : ((Unit × (Int × (Int × (Unit × ((List (List Int)) × (Int × Int)))))) × (Unit × (Unit × ((Bool × ((List q0n) × ((List (List Int)) × (List Int)))) × ((List Int) × Unit)))))) => by
  refine Eq.trans ?_ q0a.symm
  rw [l1.f]
  try simp only [el]
  kernel_rfl
noncomputable def l0.f (K : Nat) : Nat → List q0n → Int → Int → List Int → Option (List Int)
  | 0, _, _, _, _ => none
  | k + 1, a2, a3, a4, a9 => bif decide (a4 < a3) then bif decide ((0 : Int) ≤ a4) && true then a2[a4.toNat]?.bind fun t => (q6s.f K t.1 t.2.1.1 t.2.1.2 t.2.2.1.1 t.2.2.1.2 t.2.2.2 a9).bind fun t => l0.f K k a2 a3 (IntKind.i64.wrap (a4 + (1 : Int))) t.2 else none else some a9
noncomputable def l0.b (K : Nat) : Lp M 2 := q2i (X K) 5 50 0 (q0q Tryz.f41 0) ⟨[0, 2, 3, 5, 22, 23, 24], (.cons (.ptr 0 0) (.cons (.ty yI) (.cons (.ty yI) (.cons (.ptr 2 0) (.cons (.ty (.slice q1o)) (.cons (.ty yI) (.ty yI))))))), hs53⟩ ⟨[0, 2, 3, 5], (.cons (.ptr 0 0) (.cons (.ty yI) (.cons (.ty yI) (.ptr 2 0)))), hs53⟩ K [] (fun k (x : ((Unit × (Int × (Int × (Unit × ((List q0n) × (Int × Int)))))) × (Unit × (Unit × ((Bool × ((List q0n) × ((List (List Int)) × (List Int)))) × ((List Int) × Unit)))))) => l0.f K k x.1.2.2.2.2.1 x.1.2.2.2.2.2.1 x.1.2.2.2.2.2.2 x.2.2.2.2.1) (fun x r => (((), x.1.2.1, x.1.2.2.1, ()), (), (), x.2.2.2.1, r, ())) fun k (x : ((Unit × (Int × (Int × (Unit × ((List q0n) × (Int × Int)))))) × (Unit × (Unit × ((Bool × ((List q0n) × ((List (List Int)) × (List Int)))) × ((List Int) × Unit)))))) => by
  refine Eq.trans ?_ q0a.symm
  rw [l0.f]
  try simp only [el]
  kernel_rfl
noncomputable def f (K : Nat) (a0 : Bool) (a1 : List q0n) (a2 : List (List Int)) (a3 : List Int) (a4 : Int) (a5 : Int) (a6 : List Int) : Option (List Int) := bif !a0 then (q0o.f K (0 : Int) a6).bind fun t => (q7g.f K a4 a3 t).bind fun t => some t.2 else (q0o.f K (1 : Int) a6).bind fun t => (l0.f K K a1 (↑a1.length : Int) (0 : Int) t).bind fun t => (l1.f K K a5 a2 (↑a2.length : Int) (0 : Int) t).bind fun t => (q7g.f K a4 a3 t).bind fun t => some t.2
noncomputable def e (K : Nat) : En M := fnE (X K) 41 Tryz.func41 ⟨(.cons (.ptr 0 0) (.cons (.agg (.cons (.ty .bool) (.cons (.ty (.slice q1o)) (.cons (.ty (.slice (.slice yI))) (.ty (.slice yI)))))) (.cons (.ty yI) (.ty yI)))), hs2d, .unit, hs2e⟩ [l0.b K, l1.b K] (fun (x : ((Unit × ((Bool × ((List q0n) × ((List (List Int)) × (List Int)))) × (Int × Int))) × (Unit × ((List Int) × Unit)))) => f K x.1.2.1.1 x.1.2.1.2.1 x.1.2.1.2.2.1 x.1.2.1.2.2.2 x.1.2.2.1 x.1.2.2.2 x.2.2.1) (fun x r => ((), (), (), r, ())) fun (x : ((Unit × ((Bool × ((List q0n) × ((List (List Int)) × (List Int)))) × (Int × Int))) × (Unit × ((List Int) × Unit)))) => by
  refine Eq.trans ?_ q0a.symm
  rw [f]
  try simp only [el]
  kernel_rfl
end q93
namespace q9r
noncomputable def X (K : Nat) : Fx M 0 := { hmx := mxd, nt := 120, cs := [q9v.e K, q7k.e K, q4v.e K, q4i.e K, q2n.e K, q0o.e K, q11.e K, q6s.e K, q4l.e K, z0d.e K, q3e.e K, q93.e K, q1h.e K] }
noncomputable def l3.f (K : Nat) : Nat → List LSum → Int → Int → List Int → Option (List Int)
  | 0, _, _, _, _ => none
  | k + 1, a0, a1, a2, a3 => bif decide (a2 < a1) then bif decide ((0 : Int) ≤ a2) && true then a0[a2.toNat]?.bind fun t => (z0d.f K t.1 t.2.1 t.2.2.1 t.2.2.2.1 t.2.2.2.2.1.1 t.2.2.2.2.1.2 t.2.2.2.2.2.1.1 t.2.2.2.2.2.1.2 t.2.2.2.2.2.2 a3).bind fun t => l3.f K k a0 a1 (IntKind.i64.wrap (a2 + (1 : Int))) t else none else some a3
noncomputable def l3.b (K : Nat) : Lp M 0 := q2i (X K) 32 120 6 (q0q Tryz.f10 3) ⟨[11, 108, 109, 110], sh4f, hs2d⟩ ⟨[11], (.ptr 0 0), hs2d⟩ K [] (fun k x => l3.f K k x.1.2.1 x.1.2.2.1 x.1.2.2.2 x.2.2.1) (fun x r => ((), (), r, ())) fun k x => by
  rw [q0a, l3.f]
  try simp only [el]
  kernel_rfl
noncomputable def l2.f (K : Nat) : Nat → Int → Int → List Int → Int → Int → List q0v → List q1c → List Int → Option (List Int)
  | 0, _, _, _, _, _, _, _, _ => none
  | k + 1, a1, a2, a6, a7, a8, a10, a24, a26 => bif decide (a8 < a7) then bif decide ((0 : Int) ≤ a8) && true then a6[a8.toNat]?.bind fun t => bif decide ((0 : Int) ≤ t) && true then a24[Int.toNat t]?.bind fun t => bif decide ((0 : Int) ≤ a2) && true then a10[a2.toNat]?.bind fun t_1 => (q93.f K t.1.1 t.1.2.1 t.1.2.2 t.2 t_1.2.2.1 a1 a26).bind fun t => l2.f K k a1 a2 a6 a7 (IntKind.i64.wrap (a8 + (1 : Int))) a10 a24 t else none else none else none else some a26
noncomputable def l2.b (K : Nat) : Lp M 0 := q2i (X K) 25 120 4 (q0q Tryz.f10 2) ⟨[2, 3, 4, 11, 14, 15, 16, 17, 63, 64, 65, 81, 82, 83], (.cons (.ty .bool) (.cons (.ptr 0 0) (.cons (.ptr 1 0) (.cons (.ptr 2 0) (.cons (.ty yI) (.cons (.ty yI) (.cons (.ptr 3 0) (.cons (.ptr 4 0) (.cons (.ty (.slice q3q)) (.cons (.ty yI) (.cons (.ty yI) (.cons (.ty (.slice yI)) (.cons (.ty yI) (.ty yI)))))))))))))), [hh17, hh50, .cells 213 0 (.own 5), .cells 83 0 (.cons (.ty .bool) (.cons (.ty (.slice q1o)) (.cons (.ty .bool) (.cons (.ty yI) (.cons (.ty .bool) (.cons (.ty yI) (.cons (.ty yI) (.cons (.ty yI) (.cons (.ty yI) (.ty (.slice q2z))))))))))), .cells 213 0 (.own 6), .list 5 (.int .u8) [], .list 5 (.int .u8) []]⟩ ⟨[2, 3, 4, 11, 14, 17, 63, 64, 65], (.cons (.ty .bool) (.cons (.ptr 0 0) (.cons (.ptr 1 0) (.cons (.ptr 2 0) (.cons (.ty yI) (.cons (.ptr 3 0) (.cons (.ty (.slice q3q)) (.cons (.ty yI) (.ty yI))))))))), [hh17, hh50, .cells 213 0 (.own 4), .cells 213 0 (.own 5), .list 5 (.int .u8) [], .list 5 (.int .u8) []]⟩ K [] (fun k (x : ((Bool × (Unit × (Unit × (Unit × (Int × (Int × (Unit × (Unit × ((List q0z) × (Int × (Int × ((List Int) × (Int × Int))))))))))))) × (((List Int) × ((List q0v) × (List q0i))) × (((List q0n) × ((List q0z) × (List LSum))) × (Unit × ((Bool × ((List q0n) × (Bool × (Int × (Bool × (Int × (Int × (Int × (Int × (List q1c)))))))))) × (Unit × ((List Int) × ((List Int) × Unit))))))))) => l2.f K k x.1.2.2.2.2.1 x.1.2.2.2.2.2.1 x.1.2.2.2.2.2.2.2.2.2.2.2.1 x.1.2.2.2.2.2.2.2.2.2.2.2.2.1 x.1.2.2.2.2.2.2.2.2.2.2.2.2.2 x.2.1.2.1 x.2.2.2.2.1.2.2.2.2.2.2.2.2.2 x.2.2.2.2.2.2.2.1) (fun x r => ((x.1.1, (), (), (), x.1.2.2.2.2.1, (), x.1.2.2.2.2.2.2.2.2.1, x.1.2.2.2.2.2.2.2.2.2.1, x.1.2.2.2.2.2.2.2.2.2.2.1), x.2.1, x.2.2.1, (), (), x.2.2.2.2.2.2.1, r, ())) fun k (x : ((Bool × (Unit × (Unit × (Unit × (Int × (Int × (Unit × (Unit × ((List q0z) × (Int × (Int × ((List Int) × (Int × Int))))))))))))) × (((List Int) × ((List q0v) × (List q0i))) × (((List q0n) × ((List q0z) × (List LSum))) × (Unit × ((Bool × ((List q0n) × (Bool × (Int × (Bool × (Int × (Int × (Int × (Int × (List q1c)))))))))) × (Unit × ((List Int) × ((List Int) × Unit))))))))) => by
  refine Eq.trans ?_ q0a.symm
  rw [l2.f]
  try simp only [el]
  kernel_rfl
noncomputable def l1.f (K : Nat) : Nat → Bool → Int → List q0z → Int → Int → List q0v → List Int → Option (List Int)
  | 0, _, _, _, _, _, _, _ => none
  | k + 1, a0, a1, a2, a3, a4, a6, a11 => bif decide (a4 < a3) then bif decide ((0 : Int) ≤ a4) && true then a2[a4.toNat]?.bind fun t => (q4v.f K).bind fun t_1 => (z0d.f K t.1.1 t.1.2.1 t.1.2.2.1 t.1.2.2.2.1 t.1.2.2.2.2.1.1 t.1.2.2.2.2.1.2 t.1.2.2.2.2.2.1.1 t.1.2.2.2.2.2.1.2 t.1.2.2.2.2.2.2 t_1).bind fun t_2 => bif decide ((0 : Int) ≤ a4) && true then a6[a4.toNat]?.bind fun t_3 => (q3e.f K t_3.2.2.2 a0).bind fun t_4 => (l2.f K K a1 a4 t_4 (↑t_4.length : Int) (0 : Int) a6 t.2 t_2).bind fun t => (q1h.f K t).bind fun t => (q11.f K t a11).bind fun t => l1.f K k a0 a1 a2 a3 (IntKind.i64.wrap (a4 + (1 : Int))) a6 t else none else none else some a11
noncomputable def l1.b (K : Nat) : Lp M 0 := q2i (X K) 20 120 2 (q0q Tryz.f10 1) ⟨[2, 3, 4, 11, 14, 63, 64, 65], (.cons (.ty .bool) (.cons (.ptr 0 0) (.cons (.ptr 1 0) (.cons (.ptr 2 0) (.cons (.ty yI) (.cons (.ty (.slice q3q)) (.cons (.ty yI) (.ty yI)))))))), hs54⟩ ⟨[4, 11], sh1c, [hh50, .cells 213 0 (.own 2), .list 5 (.int .u8) []]⟩ K [l2.b K] (fun k (x : ((Bool × (Unit × (Unit × (Unit × (Int × ((List q0z) × (Int × Int))))))) × (((List Int) × ((List q0v) × (List q0i))) × (((List q0n) × ((List q0z) × (List LSum))) × (Unit × ((List Int) × Unit)))))) => l1.f K k x.1.1 x.1.2.2.2.2.1 x.1.2.2.2.2.2.1 x.1.2.2.2.2.2.2.1 x.1.2.2.2.2.2.2.2 x.2.1.2.1 x.2.2.2.2.1) (fun x r => (((), ()), x.2.2.1, (), r, ())) fun k (x : ((Bool × (Unit × (Unit × (Unit × (Int × ((List q0z) × (Int × Int))))))) × (((List Int) × ((List q0v) × (List q0i))) × (((List q0n) × ((List q0z) × (List LSum))) × (Unit × ((List Int) × Unit)))))) => by
  refine Eq.trans ?_ q0a.symm
  rw [l1.f]
  try simp only [el]
  kernel_rfl
noncomputable def l0.f (K : Nat) : Nat → List q0n → Int → Int → List Int → Option (List Int)
  | 0, _, _, _, _ => none
  | k + 1, a1, a2, a3, a10 => bif decide (a3 < a2) then bif decide ((0 : Int) ≤ a3) && true then a1[a3.toNat]?.bind fun t => (q6s.f K t.1 t.2.1.1 t.2.1.2 t.2.2.1.1 t.2.2.1.2 t.2.2.2 a10).bind fun t => l0.f K k a1 a2 (IntKind.i64.wrap (a3 + (1 : Int))) t.2 else none else some a10
noncomputable def l0.b (K : Nat) : Lp M 0 := q2i (X K) 14 120 0 (q0q Tryz.f10 0) ⟨[2, 3, 4, 11, 50, 51, 52], (.cons (.ty .bool) (.cons (.ptr 0 0) (.cons (.ptr 1 0) (.cons (.ptr 2 0) (.cons (.ty (.slice q1o)) (.cons (.ty yI) (.ty yI))))))), hs54⟩ ⟨[2, 3, 4, 11], (.cons (.ty .bool) (.cons (.ptr 0 0) (.cons (.ptr 1 0) (.ptr 2 0)))), hs54⟩ K [] (fun k (x : ((Bool × (Unit × (Unit × (Unit × ((List q0n) × (Int × Int)))))) × (((List Int) × ((List q0v) × (List q0i))) × (((List q0n) × ((List q0z) × (List LSum))) × (Unit × ((List Int) × Unit)))))) => l0.f K k x.1.2.2.2.2.1 x.1.2.2.2.2.2.1 x.1.2.2.2.2.2.2 x.2.2.2.2.1) (fun x r => ((x.1.1, (), (), ()), x.2.1, x.2.2.1, (), r, ())) fun k (x : ((Bool × (Unit × (Unit × (Unit × ((List q0n) × (Int × Int)))))) × (((List Int) × ((List q0v) × (List q0i))) × (((List q0n) × ((List q0z) × (List LSum))) × (Unit × ((List Int) × Unit)))))) => by
  refine Eq.trans ?_ q0a.symm
  rw [l0.f]
  try simp only [el]
  kernel_rfl
noncomputable def f (K : Nat) (a0 : List Int) (a1 : List q0v) (a2 : List q0i) (a3 : List q0n) (a4 : List q0z) (a5 : List LSum) (a6 : Bool) : Option (List Int × Err) := (q9v.f K a0 a1 a2 a3 a4 a5 a6).bind fun t => bif bif true then !t.isNil else t.isNil then some ([], t) else (q7k.f K a0 a1 a2).bind fun t => bif bif true then !t.2.isNil else t.2.isNil then some ([], t.2) else (q4v.f K).bind fun t_1 => (q4i.f K).bind fun t_2 => (q2n.f K t_2 t_1).bind fun t_3 => bif a6 then (q0o.f K (1 : Int) t_3).bind fun t_4 => (q11.f K t.1 t_4).bind fun t => (l0.f K K a3 (↑a3.length : Int) (0 : Int) t).bind fun t => (q4l.f K a1).bind fun t_5 => (l1.f K K a6 t_5 a4 (↑a4.length : Int) (0 : Int) a1 t).bind fun t => (l3.f K K a5 (↑a5.length : Int) (0 : Int) t).bind fun t => (q1h.f K t).bind fun t => some (t, Err.nil) else (q0o.f K (0 : Int) t_3).bind fun t_4 => (q11.f K t.1 t_4).bind fun t => (l0.f K K a3 (↑a3.length : Int) (0 : Int) t).bind fun t => (q4l.f K a1).bind fun t_5 => (l1.f K K a6 t_5 a4 (↑a4.length : Int) (0 : Int) a1 t).bind fun t => (l3.f K K a5 (↑a5.length : Int) (0 : Int) t).bind fun t => (q1h.f K t).bind fun t => some (t, Err.nil)
noncomputable def e (K : Nat) : En M := fnE (X K) 10 Tryz.func10 ⟨sh4e, [], sh3, []⟩ [l0.b K, l1.b K, l2.b K, l3.b K] (fun (x : ((((List Int) × ((List q0v) × (List q0i))) × (((List q0n) × ((List q0z) × (List LSum))) × Bool)) × Unit)) => f K x.1.1.1 x.1.1.2.1 x.1.1.2.2 x.1.2.1.1 x.1.2.1.2.1 x.1.2.1.2.2 x.1.2.2) (fun x r => ((r.1, r.2), ())) fun (x : ((((List Int) × ((List q0v) × (List q0i))) × (((List q0n) × ((List q0z) × (List LSum))) × Bool)) × Unit)) => by
  refine Eq.trans ?_ q0a.symm
  rw [f]
  try simp only [el]
  kernel_rfl
end q9r
namespace q3l
noncomputable def X (K : Nat) : Fx M 0 := { hmx := mxd, nt := 26, cs := [] }
noncomputable def l0.f (K : Nat) : Nat → List Int → List Int → Int → Int → Option ((Unit) ⊕ (Bool))
  | 0, _, _, _, _ => none
  | k + 1, a0, a1, a2, a3 => bif decide (a3 < a2) then bif decide ((0 : Int) ≤ a3) && true then a0[a3.toNat]?.bind fun t => bif decide ((0 : Int) ≤ a3) && true then a1[a3.toNat]?.bind fun t_1 => bif t != t_1 then some (Sum.inr false) else l0.f K k a0 a1 a2 (IntKind.i64.wrap (a3 + (1 : Int))) else none else none else some (Sum.inl ())
noncomputable def l0.b (K : Nat) : Lp M 0 := q25 (X K) 4 26 0 (q0q Tryz.f43 0) ⟨[0, 1, 12, 13], sh56, []⟩ ss18 ss2b K [] (fun k x => l0.f K k x.1.1 x.1.2.1 x.1.2.2.1 x.1.2.2.2) (fun x r => ((), ())) (fun x r => (r, ())) fun k x => by
  rw [q0a, l0.f]
  try simp only [el]
  kernel_rfl
noncomputable def f (K : Nat) (a0 : List Int) (a1 : List Int) : Option (Bool) := bif (↑a0.length : Int) != (↑a1.length : Int) then some false else (l0.f K K a0 a1 (↑a0.length : Int) (0 : Int)).bind fun t => Sum.elim (fun t => some true) (fun t => some t) t
noncomputable def e (K : Nat) : En M := fnE (X K) 43 Tryz.func43 ⟨sh55, [], (.ty .bool), []⟩ [l0.b K] (fun x => f K x.1.1 x.1.2) (fun x r => (r, ())) fun x => by
  rw [q0a, f]
  try simp only [el]
  kernel_rfl
end q3l
namespace q2u
noncomputable def X (K : Nat) : Fx M 0 := { hmx := mxd, nt := 26, cs := [] }
noncomputable def l0.f (K : Nat) : Nat → List q0i → List q0i → Int → Int → Option ((Unit) ⊕ (Bool))
  | 0, _, _, _, _ => none
  | k + 1, a0, a1, a2, a3 => bif decide (a3 < a2) then bif decide ((0 : Int) ≤ a3) && true then a0[a3.toNat]?.bind fun t => bif decide ((0 : Int) ≤ a3) && true then a1[a3.toNat]?.bind fun t_1 => bif bif true then !(t.1 == t_1.1 && t.2 == t_1.2) else t.1 == t_1.1 && t.2 == t_1.2 then some (Sum.inr false) else l0.f K k a0 a1 a2 (IntKind.i64.wrap (a3 + (1 : Int))) else none else none else some (Sum.inl ())
noncomputable def l0.b (K : Nat) : Lp M 0 := q25 (X K) 4 26 0 (q0q Tryz.f44 0) ⟨[0, 1, 12, 13], (.cons (.ty (.slice q19)) (.cons (.ty (.slice q19)) (.cons (.ty yI) (.ty yI)))), []⟩ ss18 ss2b K [] (fun k x => l0.f K k x.1.1 x.1.2.1 x.1.2.2.1 x.1.2.2.2) (fun x r => ((), ())) (fun x r => (r, ())) fun k x => by
  rw [q0a, l0.f]
  try simp only [el]
  kernel_rfl
noncomputable def f (K : Nat) (a0 : List q0i) (a1 : List q0i) : Option (Bool) := bif (↑a0.length : Int) != (↑a1.length : Int) then some false else (l0.f K K a0 a1 (↑a0.length : Int) (0 : Int)).bind fun t => Sum.elim (fun t => some true) (fun t => some t) t
noncomputable def e (K : Nat) : En M := fnE (X K) 44 Tryz.func44 ⟨(.cons (.ty (.slice q19)) (.ty (.slice q19))), [], (.ty .bool), []⟩ [l0.b K] (fun x => f K x.1.1 x.1.2) (fun x r => (r, ())) fun x => by
  rw [q0a, f]
  try simp only [el]
  kernel_rfl
end q2u
namespace q22
noncomputable def X (K : Nat) : Fx M 0 := { hmx := mxd, nt := 26, cs := [] }
noncomputable def l0.f (K : Nat) : Nat → List Int → List Int → Int → Int → Option ((Unit) ⊕ (Bool))
  | 0, _, _, _, _ => none
  | k + 1, a0, a1, a2, a3 => bif decide (a3 < a2) then bif decide ((0 : Int) ≤ a3) && true then a0[a3.toNat]?.bind fun t => bif decide ((0 : Int) ≤ a3) && true then a1[a3.toNat]?.bind fun t_1 => bif t != t_1 then some (Sum.inr false) else l0.f K k a0 a1 a2 (IntKind.i64.wrap (a3 + (1 : Int))) else none else none else some (Sum.inl ())
noncomputable def l0.b (K : Nat) : Lp M 0 := q25 (X K) 4 26 0 (q0q Tryz.f93 0) ⟨[0, 1, 12, 13], sh56, []⟩ ss18 ss2b K [] (fun k x => l0.f K k x.1.1 x.1.2.1 x.1.2.2.1 x.1.2.2.2) (fun x r => ((), ())) (fun x r => (r, ())) fun k x => by
  rw [q0a, l0.f]
  try simp only [el]
  kernel_rfl
noncomputable def f (K : Nat) (a0 : List Int) (a1 : List Int) : Option (Bool) := bif (↑a0.length : Int) != (↑a1.length : Int) then some false else (l0.f K K a0 a1 (↑a0.length : Int) (0 : Int)).bind fun t => Sum.elim (fun t => some true) (fun t => some t) t
noncomputable def e (K : Nat) : En M := fnE (X K) 93 Tryz.func93 ⟨sh55, [], (.ty .bool), []⟩ [l0.b K] (fun x => f K x.1.1 x.1.2) (fun x r => (r, ())) fun x => by
  rw [q0a, f]
  try simp only [el]
  kernel_rfl
end q22
namespace q8y
noncomputable def X (K : Nat) : Fx M 0 := { hmx := mxd, nt := 45, cs := [q22.e K], cp := [(1, [.bool], [4])] }
noncomputable def f (K : Nat) (a0 : Int) (a1 : Int) (a2 : Int) (a3 : Int) (a4 : Int) (a5 : List Int) (a6 : Int) (a7 : Int) (a8 : Int) (a9 : Int) (a10 : Int) (a11 : List Int) : Option (Bool) := q02 (bif a0 == a6 then bif a1 == a7 then bif a2 == a8 then bif a3 == a9 then bif a4 == a10 then (q22.f K a5 a11).bind fun t => some t else some false else some false else some false else some false else some false) fun t => some t
noncomputable def e (K : Nat) : En M := fnE (X K) 155 Tryz.func155 ⟨(.cons (.agg (.cons (.ty yI) (.cons (.ty yI) (.cons (.ty yI) (.cons (.ty yI) (.cons (.ty yI) (.ty (.slice yI)))))))) (.agg (.cons (.ty yI) (.cons (.ty yI) (.cons (.ty yI) (.cons (.ty yI) (.cons (.ty yI) (.ty (.slice yI))))))))), [], (.ty .bool), []⟩ [] (fun x => f K x.1.1.1 x.1.1.2.1 x.1.1.2.2.1 x.1.1.2.2.2.1 x.1.1.2.2.2.2.1 x.1.1.2.2.2.2.2 x.1.2.1 x.1.2.2.1 x.1.2.2.2.1 x.1.2.2.2.2.1 x.1.2.2.2.2.2.1 x.1.2.2.2.2.2.2) (fun x r => (r, ())) fun x => by
  rw [q0a, f]
  try simp only [el]
  kernel_rfl
end q8y
namespace q1u
noncomputable def X (K : Nat) : Fx M 0 := { hmx := mxd, nt := 32, cs := [q8y.e K] }
noncomputable def l0.f (K : Nat) : Nat → List q3n → List q3n → Int → Int → Option ((Unit) ⊕ (Bool))
  | 0, _, _, _, _ => none
  | k + 1, a0, a1, a2, a3 => bif decide (a3 < a2) then bif decide ((0 : Int) ≤ a3) && true then a1[a3.toNat]?.bind fun t => bif decide ((0 : Int) ≤ a3) && true then a0[a3.toNat]?.bind fun t_1 => (q8y.f K t.1 t.2.1 t.2.2.1 t.2.2.2.1 t.2.2.2.2.1 t.2.2.2.2.2 t_1.1 t_1.2.1 t_1.2.2.1 t_1.2.2.2.1 t_1.2.2.2.2.1 t_1.2.2.2.2.2).bind fun t => bif !t then some (Sum.inr false) else l0.f K k a0 a1 a2 (IntKind.i64.wrap (a3 + (1 : Int))) else none else none else some (Sum.inl ())
noncomputable def l0.b (K : Nat) : Lp M 0 := q25 (X K) 4 32 0 (q0q Tryz.f154 0) ⟨[1, 2, 15, 16, 17], (.cons (.ty (.slice q56)) (.cons (.fn 155 .unit .unit) (.cons (.ty (.slice q56)) (.cons (.ty yI) (.ty yI))))), []⟩ ss18 ss4c K [] (fun k x => l0.f K k x.1.1 x.1.2.2.1 x.1.2.2.2.1 x.1.2.2.2.2) (fun x r => ((), ())) (fun x r => (r, ())) fun k x => by
  rw [q0a, l0.f]
  try simp only [el]
  kernel_rfl
noncomputable def f (K : Nat) (a0 : List q3n) (a1 : List q3n) : Option (Bool) := bif (↑a0.length : Int) != (↑a1.length : Int) then some false else (l0.f K K a1 a0 (↑a0.length : Int) (0 : Int)).bind fun t => Sum.elim (fun t => some true) (fun t => some t) t
noncomputable def e (K : Nat) : En M := fnE (X K) 154 Tryz.func154 ⟨(.cons (.ty (.slice q56)) (.cons (.ty (.slice q56)) (.fn 155 .unit .unit))), [], (.ty .bool), []⟩ [l0.b K] (fun x => f K x.1.1 x.1.2.1) (fun x r => (r, ())) fun x => by
  rw [q0a, f]
  try simp only [el]
  kernel_rfl
end q1u
namespace q7y
noncomputable def X (K : Nat) : Fx M 0 := { hmx := mxd, nt := 17, cs := [q1u.e K], cp := [(1, [.bool], [4])] }
noncomputable def f (K : Nat) (a0 : List q3n) (a1 : Int) (a2 : Int) (a3 : Int) (a4 : Int) (a5 : List q3n) (a6 : Int) (a7 : Int) (a8 : Int) (a9 : Int) : Option (Bool) := q02 (bif bif false then !(a1 == a6 && (a2 == a7 && (a3 == a8 && a4 == a9))) else a1 == a6 && (a2 == a7 && (a3 == a8 && a4 == a9)) then (q1u.f K a0 a5).bind fun t => some t else some false) fun t => some t
noncomputable def e (K : Nat) : En M := fnE (X K) 91 Tryz.func91 ⟨(.cons (.agg (.cons (.ty (.slice q56)) (.cons (.ty yI) (.cons (.ty yI) (.cons (.ty yI) (.ty yI)))))) (.agg (.cons (.ty (.slice q56)) (.cons (.ty yI) (.cons (.ty yI) (.cons (.ty yI) (.ty yI))))))), [], (.ty .bool), []⟩ [] (fun x => f K x.1.1.1 x.1.1.2.1 x.1.1.2.2.1 x.1.1.2.2.2.1 x.1.1.2.2.2.2 x.1.2.1 x.1.2.2.1 x.1.2.2.2.1 x.1.2.2.2.2.1 x.1.2.2.2.2.2) (fun x r => (r, ())) fun x => by
  rw [q0a, f]
  try simp only [el]
  kernel_rfl
end q7y
namespace q1g
noncomputable def X (K : Nat) : Fx M 0 := { hmx := mxd, nt := 32, cs := [q7y.e K] }
noncomputable def l0.f (K : Nat) : Nat → List q1b → List q1b → Int → Int → Option ((Unit) ⊕ (Bool))
  | 0, _, _, _, _ => none
  | k + 1, a0, a1, a2, a3 => bif decide (a3 < a2) then bif decide ((0 : Int) ≤ a3) && true then a1[a3.toNat]?.bind fun t => bif decide ((0 : Int) ≤ a3) && true then a0[a3.toNat]?.bind fun t_1 => (q7y.f K t.1 t.2.1 t.2.2.1 t.2.2.2.1 t.2.2.2.2 t_1.1 t_1.2.1 t_1.2.2.1 t_1.2.2.2.1 t_1.2.2.2.2).bind fun t => bif !t then some (Sum.inr false) else l0.f K k a0 a1 a2 (IntKind.i64.wrap (a3 + (1 : Int))) else none else none else some (Sum.inl ())
noncomputable def l0.b (K : Nat) : Lp M 0 := q25 (X K) 4 32 0 (q0q Tryz.f90 0) ⟨[1, 2, 15, 16, 17], (.cons (.ty (.slice q2f)) (.cons (.fn 91 .unit .unit) (.cons (.ty (.slice q2f)) (.cons (.ty yI) (.ty yI))))), []⟩ ss18 ss4c K [] (fun k x => l0.f K k x.1.1 x.1.2.2.1 x.1.2.2.2.1 x.1.2.2.2.2) (fun x r => ((), ())) (fun x r => (r, ())) fun k x => by
  rw [q0a, l0.f]
  try simp only [el]
  kernel_rfl
noncomputable def f (K : Nat) (a0 : List q1b) (a1 : List q1b) : Option (Bool) := bif (↑a0.length : Int) != (↑a1.length : Int) then some false else (l0.f K K a1 a0 (↑a0.length : Int) (0 : Int)).bind fun t => Sum.elim (fun t => some true) (fun t => some t) t
noncomputable def e (K : Nat) : En M := fnE (X K) 90 Tryz.func90 ⟨(.cons (.ty (.slice q2f)) (.cons (.ty (.slice q2f)) (.fn 91 .unit .unit))), [], (.ty .bool), []⟩ [l0.b K] (fun x => f K x.1.1 x.1.2.1) (fun x r => (r, ())) fun x => by
  rw [q0a, f]
  try simp only [el]
  kernel_rfl
end q1g
namespace q8f
noncomputable def X (K : Nat) : Fx M 0 := { hmx := mxd, nt := 31, cs := [q1g.e K], cp := [(1, [.bool], [4])] }
noncomputable def f (K : Nat) (a0 : ByteArray) (a1 : Int) (a2 : Int) (a3 : List q1b) (a4 : ByteArray) (a5 : Int) (a6 : Int) (a7 : List q1b) : Option (Bool) := q02 (bif a0.toList == a4.toList then bif a1 == a5 then bif a2 == a6 then (q1g.f K a3 a7).bind fun t => some t else some false else some false else some false) fun t => some t
noncomputable def e (K : Nat) : En M := fnE (X K) 46 Tryz.func46 ⟨(.cons (.agg (.cons (.ty .str) (.cons (.ty yI) (.cons (.ty yI) (.ty (.slice q2f)))))) (.agg (.cons (.ty .str) (.cons (.ty yI) (.cons (.ty yI) (.ty (.slice q2f))))))), [], (.ty .bool), []⟩ [] (fun x => f K x.1.1.1 x.1.1.2.1 x.1.1.2.2.1 x.1.1.2.2.2 x.1.2.1 x.1.2.2.1 x.1.2.2.2.1 x.1.2.2.2.2) (fun x r => (r, ())) fun x => by
  rw [q0a, f]
  try simp only [el]
  kernel_rfl
end q8f
namespace q1s
noncomputable def X (K : Nat) : Fx M 0 := { hmx := mxd, nt := 32, cs := [q8f.e K] }
noncomputable def l0.f (K : Nat) : Nat → List q0v → List q0v → Int → Int → Option ((Unit) ⊕ (Bool))
  | 0, _, _, _, _ => none
  | k + 1, a0, a1, a2, a3 => bif decide (a3 < a2) then bif decide ((0 : Int) ≤ a3) && true then a1[a3.toNat]?.bind fun t => bif decide ((0 : Int) ≤ a3) && true then a0[a3.toNat]?.bind fun t_1 => (q8f.f K t.1 t.2.1 t.2.2.1 t.2.2.2 t_1.1 t_1.2.1 t_1.2.2.1 t_1.2.2.2).bind fun t => bif !t then some (Sum.inr false) else l0.f K k a0 a1 a2 (IntKind.i64.wrap (a3 + (1 : Int))) else none else none else some (Sum.inl ())
noncomputable def l0.b (K : Nat) : Lp M 0 := q25 (X K) 4 32 0 (q0q Tryz.f45 0) ⟨[1, 2, 15, 16, 17], (.cons (.ty (.slice q3c)) (.cons (.fn 46 .unit .unit) (.cons (.ty (.slice q3c)) (.cons (.ty yI) (.ty yI))))), []⟩ ss18 ss4c K [] (fun k x => l0.f K k x.1.1 x.1.2.2.1 x.1.2.2.2.1 x.1.2.2.2.2) (fun x r => ((), ())) (fun x r => (r, ())) fun k x => by
  rw [q0a, l0.f]
  try simp only [el]
  kernel_rfl
noncomputable def f (K : Nat) (a0 : List q0v) (a1 : List q0v) : Option (Bool) := bif (↑a0.length : Int) != (↑a1.length : Int) then some false else (l0.f K K a1 a0 (↑a0.length : Int) (0 : Int)).bind fun t => Sum.elim (fun t => some true) (fun t => some t) t
noncomputable def e (K : Nat) : En M := fnE (X K) 45 Tryz.func45 ⟨(.cons (.ty (.slice q3c)) (.cons (.ty (.slice q3c)) (.fn 46 .unit .unit))), [], (.ty .bool), []⟩ [l0.b K] (fun x => f K x.1.1 x.1.2.1) (fun x r => (r, ())) fun x => by
  rw [q0a, f]
  try simp only [el]
  kernel_rfl
end q1s
namespace z2k
noncomputable def X (K : Nat) : Fx M 0 := { hmx := mxd, nt := 24, cs := [q3l.e K, q2u.e K, q1s.e K], cp := [(1, [.bool], [4])] }
noncomputable def f (K : Nat) (a0 : List Int) (a1 : List q0v) (a2 : List q0i) (a3 : List Int) (a4 : List q0v) (a5 : List q0i) : Option (Bool) := q02 ((q3l.f K a0 a3).bind fun t => bif t then (q2u.f K a2 a5).bind fun t => bif t then (q1s.f K a1 a4).bind fun t => some t else some false else some false) fun t => some t
noncomputable def e (K : Nat) : En M := fnE (X K) 11 Tryz.func11 ⟨(.cons (.agg (.cons (.ty (.slice yI)) (.cons (.ty (.slice q3c)) (.ty (.slice q19))))) (.agg (.cons (.ty (.slice yI)) (.cons (.ty (.slice q3c)) (.ty (.slice q19)))))), [], (.ty .bool), []⟩ [] (fun x => f K x.1.1.1 x.1.1.2.1 x.1.1.2.2 x.1.2.1 x.1.2.2.1 x.1.2.2.2) (fun x r => (r, ())) fun x => by
  rw [q0a, f]
  try simp only [el]
  kernel_rfl
end z2k
namespace q78
noncomputable def f (K : Nat) (a0 : Int) (a1 : Bool) (a2 : Int) (a3 : Int) (a4 : Int) (a5 : Int) (a6 : Int) (a7 : Bool) (a8 : Int) (a9 : Int) (a10 : Int) (a11 : Int) : Option (Bool) := some (bif false then !(a0 == a6 && (a1 == a7 && a2 == a8 && (a3 == a9 && a4 == a10 && a5 == a11))) else a0 == a6 && (a1 == a7 && a2 == a8 && (a3 == a9 && a4 == a10 && a5 == a11)))
noncomputable def e (K : Nat) : En M := fnE (m := 0) { hmx := mxd, nt := 8, cs := [] } 47 Tryz.func47 ⟨(.cons (.agg (.cons (.ty yI) (.cons (.ty .bool) (.cons (.ty yI) (.cons (.ty yI) (.cons (.ty yI) (.ty yI))))))) (.agg (.cons (.ty yI) (.cons (.ty .bool) (.cons (.ty yI) (.cons (.ty yI) (.cons (.ty yI) (.ty yI)))))))), [], (.ty .bool), []⟩ [] (fun (x : (((Int × (Bool × (Int × (Int × (Int × Int))))) × (Int × (Bool × (Int × (Int × (Int × Int)))))) × Unit)) => f K x.1.1.1 x.1.1.2.1 x.1.1.2.2.1 x.1.1.2.2.2.1 x.1.1.2.2.2.2.1 x.1.1.2.2.2.2.2 x.1.2.1 x.1.2.2.1 x.1.2.2.2.1 x.1.2.2.2.2.1 x.1.2.2.2.2.2.1 x.1.2.2.2.2.2.2) (fun x r => (r, ())) fun (x : (((Int × (Bool × (Int × (Int × (Int × Int))))) × (Int × (Bool × (Int × (Int × (Int × Int)))))) × Unit)) => by
  refine Eq.trans ?_ q0a.symm
  rw [f]
  try simp only [el]
  kernel_rfl
end q78
namespace q1n
noncomputable def X (K : Nat) : Fx M 0 := { hmx := mxd, nt := 26, cs := [] }
noncomputable def l0.f (K : Nat) : Nat → List q0n → List q0n → Int → Int → Option ((Unit) ⊕ (Bool))
  | 0, _, _, _, _ => none
  | k + 1, a0, a1, a2, a3 => bif decide (a3 < a2) then bif decide ((0 : Int) ≤ a3) && true then a0[a3.toNat]?.bind fun t => bif decide ((0 : Int) ≤ a3) && true then a1[a3.toNat]?.bind fun t_1 => bif bif true then !(t.1 == t_1.1 && (t.2.1.1 == t_1.2.1.1 && t.2.1.2 == t_1.2.1.2 && (t.2.2.1.1 == t_1.2.2.1.1 && t.2.2.1.2 == t_1.2.2.1.2 && t.2.2.2 == t_1.2.2.2))) else t.1 == t_1.1 && (t.2.1.1 == t_1.2.1.1 && t.2.1.2 == t_1.2.1.2 && (t.2.2.1.1 == t_1.2.2.1.1 && t.2.2.1.2 == t_1.2.2.1.2 && t.2.2.2 == t_1.2.2.2)) then some (Sum.inr false) else l0.f K k a0 a1 a2 (IntKind.i64.wrap (a3 + (1 : Int))) else none else none else some (Sum.inl ())
noncomputable def l0.b (K : Nat) : Lp M 0 := q25 (X K) 4 26 0 (q0q Tryz.f49 0) ⟨[0, 1, 12, 13], (.cons (.ty (.slice q1o)) (.cons (.ty (.slice q1o)) (.cons (.ty yI) (.ty yI)))), []⟩ ss18 ss2b K [] (fun k x => l0.f K k x.1.1 x.1.2.1 x.1.2.2.1 x.1.2.2.2) (fun x r => ((), ())) (fun x r => (r, ())) fun k x => by
  rw [q0a, l0.f]
  try simp only [el]
  kernel_rfl
noncomputable def f (K : Nat) (a0 : List q0n) (a1 : List q0n) : Option (Bool) := bif (↑a0.length : Int) != (↑a1.length : Int) then some false else (l0.f K K a0 a1 (↑a0.length : Int) (0 : Int)).bind fun t => Sum.elim (fun t => some true) (fun t => some t) t
noncomputable def e (K : Nat) : En M := fnE (X K) 49 Tryz.func49 ⟨(.cons (.ty (.slice q1o)) (.ty (.slice q1o))), [], (.ty .bool), []⟩ [l0.b K] (fun x => f K x.1.1 x.1.2) (fun x r => (r, ())) fun x => by
  rw [q0a, f]
  try simp only [el]
  kernel_rfl
end q1n
namespace q5s
noncomputable def X (K : Nat) : Fx M 0 := { hmx := mxd, nt := 31, cs := [q1n.e K], cp := [(1, [.bool], [4])] }
noncomputable def f (K : Nat) (a0 : Bool) (a1 : List q0n) (a2 : Bool) (a3 : Int) (a4 : Bool) (a5 : Int) (a6 : Int) (a7 : Int) (a8 : Int) (a9 : Bool) (a10 : List q0n) (a11 : Bool) (a12 : Int) (a13 : Bool) (a14 : Int) (a15 : Int) (a16 : Int) (a17 : Int) : Option (Bool) := q02 (bif a0 == a9 then (q1n.f K a1 a10).bind fun t => bif t then bif a2 == a11 then some (bif false then !(a3 == a12 && (a4 == a13 && a5 == a14 && (a6 == a15 && a7 == a16 && a8 == a17))) else a3 == a12 && (a4 == a13 && a5 == a14 && (a6 == a15 && a7 == a16 && a8 == a17))) else some false else some false else some false) fun t => some t
noncomputable def e (K : Nat) : En M := fnE (X K) 48 Tryz.func48 ⟨(.cons (.agg (.cons (.ty .bool) (.cons (.ty (.slice q1o)) (.cons (.ty .bool) (.cons (.ty yI) (.cons (.ty .bool) (.cons (.ty yI) (.cons (.ty yI) (.cons (.ty yI) (.ty yI)))))))))) (.agg (.cons (.ty .bool) (.cons (.ty (.slice q1o)) (.cons (.ty .bool) (.cons (.ty yI) (.cons (.ty .bool) (.cons (.ty yI) (.cons (.ty yI) (.cons (.ty yI) (.ty yI))))))))))), [], (.ty .bool), []⟩ [] (fun (x : (((Bool × ((List q0n) × (Bool × (Int × (Bool × (Int × (Int × (Int × Int)))))))) × (Bool × ((List q0n) × (Bool × (Int × (Bool × (Int × (Int × (Int × Int))))))))) × Unit)) => f K x.1.1.1 x.1.1.2.1 x.1.1.2.2.1 x.1.1.2.2.2.1 x.1.1.2.2.2.2.1 x.1.1.2.2.2.2.2.1 x.1.1.2.2.2.2.2.2.1 x.1.1.2.2.2.2.2.2.2.1 x.1.1.2.2.2.2.2.2.2.2 x.1.2.1 x.1.2.2.1 x.1.2.2.2.1 x.1.2.2.2.2.1 x.1.2.2.2.2.2.1 x.1.2.2.2.2.2.2.1 x.1.2.2.2.2.2.2.2.1 x.1.2.2.2.2.2.2.2.2.1 x.1.2.2.2.2.2.2.2.2.2) (fun x r => (r, ())) fun (x : (((Bool × ((List q0n) × (Bool × (Int × (Bool × (Int × (Int × (Int × Int)))))))) × (Bool × ((List q0n) × (Bool × (Int × (Bool × (Int × (Int × (Int × Int))))))))) × Unit)) => by
  refine Eq.trans ?_ q0a.symm
  rw [f]
  try simp only [el]
  kernel_rfl
end q5s
namespace q8q
noncomputable def f (K : Nat) (a0 : List Int) (a1 : List Int) : Option (Bool) := q22.f K a0 a1
noncomputable def e (K : Nat) : En M := fnE (m := 0) { hmx := mxd, nt := 8, cs := [q22.e K] } 51 Tryz.func51 ⟨sh55, [], (.ty .bool), []⟩ [] (fun x => f K x.1.1 x.1.2) (fun x r => (r, ())) fun x => by
  rw [q0a, f]
  try simp only [el]
  kernel_rfl
end q8q
namespace q2v
noncomputable def X (K : Nat) : Fx M 0 := { hmx := mxd, nt := 32, cs := [q8q.e K] }
noncomputable def l0.f (K : Nat) : Nat → List (List Int) → List (List Int) → Int → Int → Option ((Unit) ⊕ (Bool))
  | 0, _, _, _, _ => none
  | k + 1, a0, a1, a2, a3 => bif decide (a3 < a2) then bif decide ((0 : Int) ≤ a3) && true then a1[a3.toNat]?.bind fun t => bif decide ((0 : Int) ≤ a3) && true then a0[a3.toNat]?.bind fun t_1 => (q8q.f K t t_1).bind fun t => bif !t then some (Sum.inr false) else l0.f K k a0 a1 a2 (IntKind.i64.wrap (a3 + (1 : Int))) else none else none else some (Sum.inl ())
noncomputable def l0.b (K : Nat) : Lp M 0 := q25 (X K) 4 32 0 (q0q Tryz.f92 0) ⟨[1, 2, 15, 16, 17], (.cons (.ty (.slice (.slice yI))) (.cons (.fn 51 .unit .unit) (.cons (.ty (.slice (.slice yI))) (.cons (.ty yI) (.ty yI))))), []⟩ ss18 ss4c K [] (fun k x => l0.f K k x.1.1 x.1.2.2.1 x.1.2.2.2.1 x.1.2.2.2.2) (fun x r => ((), ())) (fun x r => (r, ())) fun k x => by
  rw [q0a, l0.f]
  try simp only [el]
  kernel_rfl
noncomputable def f (K : Nat) (a0 : List (List Int)) (a1 : List (List Int)) : Option (Bool) := bif (↑a0.length : Int) != (↑a1.length : Int) then some false else (l0.f K K a1 a0 (↑a0.length : Int) (0 : Int)).bind fun t => Sum.elim (fun t => some true) (fun t => some t) t
noncomputable def e (K : Nat) : En M := fnE (X K) 92 Tryz.func92 ⟨(.cons (.ty (.slice (.slice yI))) (.cons (.ty (.slice (.slice yI))) (.fn 51 .unit .unit))), [], (.ty .bool), []⟩ [l0.b K] (fun x => f K x.1.1 x.1.2.1) (fun x r => (r, ())) fun x => by
  rw [q0a, f]
  try simp only [el]
  kernel_rfl
end q2v
namespace q9u
noncomputable def X (K : Nat) : Fx M 0 := { hmx := mxd, nt := 24, cs := [q1n.e K, q2v.e K], cp := [(1, [.bool], [4])] }
noncomputable def f (K : Nat) (a0 : Bool) (a1 : List q0n) (a2 : List (List Int)) (a3 : Bool) (a4 : List q0n) (a5 : List (List Int)) : Option (Bool) := q02 (bif a0 == a3 then (q1n.f K a1 a4).bind fun t => bif t then (q2v.f K a2 a5).bind fun t => some t else some false else some false) fun t => some t
noncomputable def e (K : Nat) : En M := fnE (X K) 50 Tryz.func50 ⟨(.cons (.agg (.cons (.ty .bool) (.cons (.ty (.slice q1o)) (.ty (.slice (.slice yI)))))) (.agg (.cons (.ty .bool) (.cons (.ty (.slice q1o)) (.ty (.slice (.slice yI))))))), [], (.ty .bool), []⟩ [] (fun (x : (((Bool × ((List q0n) × (List (List Int)))) × (Bool × ((List q0n) × (List (List Int))))) × Unit)) => f K x.1.1.1 x.1.1.2.1 x.1.1.2.2 x.1.2.1 x.1.2.2.1 x.1.2.2.2) (fun x r => (r, ())) fun (x : (((Bool × ((List q0n) × (List (List Int)))) × (Bool × ((List q0n) × (List (List Int))))) × Unit)) => by
  refine Eq.trans ?_ q0a.symm
  rw [f]
  try simp only [el]
  kernel_rfl
end q9u
namespace q07
noncomputable def X (K : Nat) : Fx M 0 := { hmx := mxd, nt := 32, cs := [q78.e K] }
noncomputable def l0.f (K : Nat) : Nat → List q0n → List q0n → Int → Int → Option ((Unit) ⊕ (Bool))
  | 0, _, _, _, _ => none
  | k + 1, a0, a1, a2, a3 => bif decide (a3 < a2) then bif decide ((0 : Int) ≤ a3) && true then a1[a3.toNat]?.bind fun t => bif decide ((0 : Int) ≤ a3) && true then a0[a3.toNat]?.bind fun t_1 => (q78.f K t.1 t.2.1.1 t.2.1.2 t.2.2.1.1 t.2.2.1.2 t.2.2.2 t_1.1 t_1.2.1.1 t_1.2.1.2 t_1.2.2.1.1 t_1.2.2.1.2 t_1.2.2.2).bind fun t => bif !t then some (Sum.inr false) else l0.f K k a0 a1 a2 (IntKind.i64.wrap (a3 + (1 : Int))) else none else none else some (Sum.inl ())
noncomputable def l0.b (K : Nat) : Lp M 0 := q25 (X K) 4 32 0 (q0q Tryz.f94 0) ⟨[1, 2, 15, 16, 17], (.cons (.ty (.slice q1o)) (.cons (.fn 47 .unit .unit) (.cons (.ty (.slice q1o)) (.cons (.ty yI) (.ty yI))))), []⟩ ss18 ss4c K [] (fun k x => l0.f K k x.1.1 x.1.2.2.1 x.1.2.2.2.1 x.1.2.2.2.2) (fun x r => ((), ())) (fun x r => (r, ())) fun k x => by
  rw [q0a, l0.f]
  try simp only [el]
  kernel_rfl
noncomputable def f (K : Nat) (a0 : List q0n) (a1 : List q0n) : Option (Bool) := bif (↑a0.length : Int) != (↑a1.length : Int) then some false else (l0.f K K a1 a0 (↑a0.length : Int) (0 : Int)).bind fun t => Sum.elim (fun t => some true) (fun t => some t) t
noncomputable def e (K : Nat) : En M := fnE (X K) 94 Tryz.func94 ⟨(.cons (.ty (.slice q1o)) (.cons (.ty (.slice q1o)) (.fn 47 .unit .unit))), [], (.ty .bool), []⟩ [l0.b K] (fun x => f K x.1.1 x.1.2.1) (fun x r => (r, ())) fun x => by
  rw [q0a, f]
  try simp only [el]
  kernel_rfl
end q07
namespace q5u
noncomputable def X (K : Nat) : Fx M 0 := { hmx := mxd, nt := 23, cs := [q9u.e K, q8q.e K], cp := [(1, [.bool], [6])] }
noncomputable def f (K : Nat) (a0 : Bool) (a1 : List q0n) (a2 : List (List Int)) (a3 : List Int) (a4 : Bool) (a5 : List q0n) (a6 : List (List Int)) (a7 : List Int) : Option (Bool) := q02 ((q9u.f K a0 a1 a2 a4 a5 a6).bind fun t => bif t then (q8q.f K a3 a7).bind fun t => some t else some false) fun t => some t
noncomputable def e (K : Nat) : En M := fnE (X K) 157 Tryz.func157 ⟨(.cons (.agg (.cons (.fn 47 .unit .unit) (.cons (.fn 48 .unit .unit) (.cons (.fn 50 .unit .unit) (.fn 51 .unit .unit))))) (.cons (.agg (.cons (.ty .bool) (.cons (.ty (.slice q1o)) (.cons (.ty (.slice (.slice yI))) (.ty (.slice yI)))))) (.agg (.cons (.ty .bool) (.cons (.ty (.slice q1o)) (.cons (.ty (.slice (.slice yI))) (.ty (.slice yI)))))))), [], (.ty .bool), []⟩ [] (fun (x : ((((Unit × Unit) × ((Unit × Unit) × ((Unit × Unit) × (Unit × Unit)))) × ((Bool × ((List q0n) × ((List (List Int)) × (List Int)))) × (Bool × ((List q0n) × ((List (List Int)) × (List Int)))))) × Unit)) => f K x.1.2.1.1 x.1.2.1.2.1 x.1.2.1.2.2.1 x.1.2.1.2.2.2 x.1.2.2.1 x.1.2.2.2.1 x.1.2.2.2.2.1 x.1.2.2.2.2.2) (fun x r => (r, ())) fun (x : ((((Unit × Unit) × ((Unit × Unit) × ((Unit × Unit) × (Unit × Unit)))) × ((Bool × ((List q0n) × ((List (List Int)) × (List Int)))) × (Bool × ((List q0n) × ((List (List Int)) × (List Int)))))) × Unit)) => by
  refine Eq.trans ?_ q0a.symm
  rw [f]
  try simp only [el]
  kernel_rfl
end q5u
namespace q05
noncomputable def X (K : Nat) : Fx M 0 := { hmx := mxd, nt := 32, cs := [q5u.e K] }
noncomputable def l0.f (K : Nat) : Nat → List q1c → List q1c → Int → Int → Option ((Unit) ⊕ (Bool))
  | 0, _, _, _, _ => none
  | k + 1, a0, a1, a2, a3 => bif decide (a3 < a2) then bif decide ((0 : Int) ≤ a3) && true then a1[a3.toNat]?.bind fun t => bif decide ((0 : Int) ≤ a3) && true then a0[a3.toNat]?.bind fun t_1 => (q5u.f K t.1.1 t.1.2.1 t.1.2.2 t.2 t_1.1.1 t_1.1.2.1 t_1.1.2.2 t_1.2).bind fun t => bif !t then some (Sum.inr false) else l0.f K k a0 a1 a2 (IntKind.i64.wrap (a3 + (1 : Int))) else none else none else some (Sum.inl ())
noncomputable def l0.b (K : Nat) : Lp M 0 := q25 (X K) 4 32 0 (q0q Tryz.f156 0) ⟨[1, 2, 15, 16, 17], (.cons (.ty (.slice q2z)) (.cons (.fn 157 (.agg (.cons (.fn 47 .unit .unit) (.cons (.fn 48 .unit .unit) (.cons (.fn 50 .unit .unit) (.fn 51 .unit .unit))))) .unit) (.cons (.ty (.slice q2z)) (.cons (.ty yI) (.ty yI))))), []⟩ ss18 ss4c K [] (fun k x => l0.f K k x.1.1 x.1.2.2.1 x.1.2.2.2.1 x.1.2.2.2.2) (fun x r => ((), ())) (fun x r => (r, ())) fun k x => by
  rw [q0a, l0.f]
  try simp only [el]
  kernel_rfl
noncomputable def f (K : Nat) (a0 : List q1c) (a1 : List q1c) : Option (Bool) := bif (↑a0.length : Int) != (↑a1.length : Int) then some false else (l0.f K K a1 a0 (↑a0.length : Int) (0 : Int)).bind fun t => Sum.elim (fun t => some true) (fun t => some t) t
noncomputable def e (K : Nat) : En M := fnE (X K) 156 Tryz.func156 ⟨(.cons (.ty (.slice q2z)) (.cons (.ty (.slice q2z)) (.fn 157 (.agg (.cons (.fn 47 .unit .unit) (.cons (.fn 48 .unit .unit) (.cons (.fn 50 .unit .unit) (.fn 51 .unit .unit))))) .unit))), [], (.ty .bool), []⟩ [l0.b K] (fun x => f K x.1.1 x.1.2.1) (fun x r => (r, ())) fun x => by
  rw [q0a, f]
  try simp only [el]
  kernel_rfl
end q05
namespace q4d
noncomputable def X (K : Nat) : Fx M 0 := { hmx := mxd, nt := 23, cs := [q5s.e K, q05.e K], cp := [(1, [.bool], [6])] }
noncomputable def f (K : Nat) (a0 : Bool) (a1 : List q0n) (a2 : Bool) (a3 : Int) (a4 : Bool) (a5 : Int) (a6 : Int) (a7 : Int) (a8 : Int) (a9 : List q1c) (a10 : Bool) (a11 : List q0n) (a12 : Bool) (a13 : Int) (a14 : Bool) (a15 : Int) (a16 : Int) (a17 : Int) (a18 : Int) (a19 : List q1c) : Option (Bool) := q02 ((q5s.f K a0 a1 a2 a3 a4 a5 a6 a7 a8 a10 a11 a12 a13 a14 a15 a16 a17 a18).bind fun t => bif t then (q05.f K a9 a19).bind fun t => some t else some false) fun t => some t
noncomputable def e (K : Nat) : En M := fnE (X K) 96 Tryz.func96 ⟨(.cons (.agg (.cons (.fn 47 .unit .unit) (.cons (.fn 48 .unit .unit) (.cons (.fn 50 .unit .unit) (.fn 51 .unit .unit))))) (.cons (.agg (.cons (.ty .bool) (.cons (.ty (.slice q1o)) (.cons (.ty .bool) (.cons (.ty yI) (.cons (.ty .bool) (.cons (.ty yI) (.cons (.ty yI) (.cons (.ty yI) (.cons (.ty yI) (.ty (.slice q2z)))))))))))) (.agg (.cons (.ty .bool) (.cons (.ty (.slice q1o)) (.cons (.ty .bool) (.cons (.ty yI) (.cons (.ty .bool) (.cons (.ty yI) (.cons (.ty yI) (.cons (.ty yI) (.cons (.ty yI) (.ty (.slice q2z)))))))))))))), [], (.ty .bool), []⟩ [] (fun (x : ((((Unit × Unit) × ((Unit × Unit) × ((Unit × Unit) × (Unit × Unit)))) × ((Bool × ((List q0n) × (Bool × (Int × (Bool × (Int × (Int × (Int × (Int × (List q1c)))))))))) × (Bool × ((List q0n) × (Bool × (Int × (Bool × (Int × (Int × (Int × (Int × (List q1c)))))))))))) × Unit)) => f K x.1.2.1.1 x.1.2.1.2.1 x.1.2.1.2.2.1 x.1.2.1.2.2.2.1 x.1.2.1.2.2.2.2.1 x.1.2.1.2.2.2.2.2.1 x.1.2.1.2.2.2.2.2.2.1 x.1.2.1.2.2.2.2.2.2.2.1 x.1.2.1.2.2.2.2.2.2.2.2.1 x.1.2.1.2.2.2.2.2.2.2.2.2 x.1.2.2.1 x.1.2.2.2.1 x.1.2.2.2.2.1 x.1.2.2.2.2.2.1 x.1.2.2.2.2.2.2.1 x.1.2.2.2.2.2.2.2.1 x.1.2.2.2.2.2.2.2.2.1 x.1.2.2.2.2.2.2.2.2.2.1 x.1.2.2.2.2.2.2.2.2.2.2.1 x.1.2.2.2.2.2.2.2.2.2.2.2) (fun x r => (r, ())) fun (x : ((((Unit × Unit) × ((Unit × Unit) × ((Unit × Unit) × (Unit × Unit)))) × ((Bool × ((List q0n) × (Bool × (Int × (Bool × (Int × (Int × (Int × (Int × (List q1c)))))))))) × (Bool × ((List q0n) × (Bool × (Int × (Bool × (Int × (Int × (Int × (Int × (List q1c)))))))))))) × Unit)) => by
  refine Eq.trans ?_ q0a.symm
  rw [f]
  try simp only [el]
  kernel_rfl
end q4d
namespace q09
noncomputable def X (K : Nat) : Fx M 0 := { hmx := mxd, nt := 32, cs := [q4d.e K] }
noncomputable def l0.f (K : Nat) : Nat → List q0z → List q0z → Int → Int → Option ((Unit) ⊕ (Bool))
  | 0, _, _, _, _ => none
  | k + 1, a0, a1, a2, a3 => bif decide (a3 < a2) then bif decide ((0 : Int) ≤ a3) && true then a1[a3.toNat]?.bind fun t => bif decide ((0 : Int) ≤ a3) && true then a0[a3.toNat]?.bind fun t_1 => (q4d.f K t.1.1 t.1.2.1 t.1.2.2.1 t.1.2.2.2.1 t.1.2.2.2.2.1.1 t.1.2.2.2.2.1.2 t.1.2.2.2.2.2.1.1 t.1.2.2.2.2.2.1.2 t.1.2.2.2.2.2.2 t.2 t_1.1.1 t_1.1.2.1 t_1.1.2.2.1 t_1.1.2.2.2.1 t_1.1.2.2.2.2.1.1 t_1.1.2.2.2.2.1.2 t_1.1.2.2.2.2.2.1.1 t_1.1.2.2.2.2.2.1.2 t_1.1.2.2.2.2.2.2 t_1.2).bind fun t => bif !t then some (Sum.inr false) else l0.f K k a0 a1 a2 (IntKind.i64.wrap (a3 + (1 : Int))) else none else none else some (Sum.inl ())
noncomputable def l0.b (K : Nat) : Lp M 0 := q25 (X K) 4 32 0 (q0q Tryz.f95 0) ⟨[1, 2, 15, 16, 17], (.cons (.ty (.slice q3q)) (.cons (.fn 96 (.agg (.cons (.fn 47 .unit .unit) (.cons (.fn 48 .unit .unit) (.cons (.fn 50 .unit .unit) (.fn 51 .unit .unit))))) .unit) (.cons (.ty (.slice q3q)) (.cons (.ty yI) (.ty yI))))), []⟩ ss18 ss4c K [] (fun k x => l0.f K k x.1.1 x.1.2.2.1 x.1.2.2.2.1 x.1.2.2.2.2) (fun x r => ((), ())) (fun x r => (r, ())) fun k x => by
  rw [q0a, l0.f]
  try simp only [el]
  kernel_rfl
noncomputable def f (K : Nat) (a0 : List q0z) (a1 : List q0z) : Option (Bool) := bif (↑a0.length : Int) != (↑a1.length : Int) then some false else (l0.f K K a1 a0 (↑a0.length : Int) (0 : Int)).bind fun t => Sum.elim (fun t => some true) (fun t => some t) t
noncomputable def e (K : Nat) : En M := fnE (X K) 95 Tryz.func95 ⟨(.cons (.ty (.slice q3q)) (.cons (.ty (.slice q3q)) (.fn 96 (.agg (.cons (.fn 47 .unit .unit) (.cons (.fn 48 .unit .unit) (.cons (.fn 50 .unit .unit) (.fn 51 .unit .unit))))) .unit))), [], (.ty .bool), []⟩ [l0.b K] (fun x => f K x.1.1 x.1.2.1) (fun x r => (r, ())) fun x => by
  rw [q0a, f]
  try simp only [el]
  kernel_rfl
end q09
namespace q1i
noncomputable def X (K : Nat) : Fx M 0 := { hmx := mxd, nt := 32, cs := [q5s.e K] }
noncomputable def l0.f (K : Nat) : Nat → List LSum → List LSum → Int → Int → Option ((Unit) ⊕ (Bool))
  | 0, _, _, _, _ => none
  | k + 1, a0, a1, a2, a3 => bif decide (a3 < a2) then bif decide ((0 : Int) ≤ a3) && true then a1[a3.toNat]?.bind fun t => bif decide ((0 : Int) ≤ a3) && true then a0[a3.toNat]?.bind fun t_1 => (q5s.f K t.1 t.2.1 t.2.2.1 t.2.2.2.1 t.2.2.2.2.1.1 t.2.2.2.2.1.2 t.2.2.2.2.2.1.1 t.2.2.2.2.2.1.2 t.2.2.2.2.2.2 t_1.1 t_1.2.1 t_1.2.2.1 t_1.2.2.2.1 t_1.2.2.2.2.1.1 t_1.2.2.2.2.1.2 t_1.2.2.2.2.2.1.1 t_1.2.2.2.2.2.1.2 t_1.2.2.2.2.2.2).bind fun t => bif !t then some (Sum.inr false) else l0.f K k a0 a1 a2 (IntKind.i64.wrap (a3 + (1 : Int))) else none else none else some (Sum.inl ())
noncomputable def l0.b (K : Nat) : Lp M 0 := q25 (X K) 4 32 0 (q0q Tryz.f97 0) ⟨[1, 2, 15, 16, 17], (.cons (.ty (.slice ySum)) (.cons (.fn 48 .unit .unit) (.cons (.ty (.slice ySum)) (.cons (.ty yI) (.ty yI))))), []⟩ ss18 ss4c K [] (fun k x => l0.f K k x.1.1 x.1.2.2.1 x.1.2.2.2.1 x.1.2.2.2.2) (fun x r => ((), ())) (fun x r => (r, ())) fun k x => by
  rw [q0a, l0.f]
  try simp only [el]
  kernel_rfl
noncomputable def f (K : Nat) (a0 : List LSum) (a1 : List LSum) : Option (Bool) := bif (↑a0.length : Int) != (↑a1.length : Int) then some false else (l0.f K K a1 a0 (↑a0.length : Int) (0 : Int)).bind fun t => Sum.elim (fun t => some true) (fun t => some t) t
noncomputable def e (K : Nat) : En M := fnE (X K) 97 Tryz.func97 ⟨(.cons (.ty (.slice ySum)) (.cons (.ty (.slice ySum)) (.fn 48 .unit .unit))), [], (.ty .bool), []⟩ [l0.b K] (fun x => f K x.1.1 x.1.2.1) (fun x r => (r, ())) fun x => by
  rw [q0a, f]
  try simp only [el]
  kernel_rfl
end q1i
namespace q5p
noncomputable def X (K : Nat) : Fx M 0 := { hmx := mxd, nt := 32, cs := [q07.e K, q09.e K, q1i.e K], cp := [(1, [.bool], [6])] }
noncomputable def f (K : Nat) (a0 : List q0n) (a1 : List q0z) (a2 : List LSum) (a3 : List q0n) (a4 : List q0z) (a5 : List LSum) : Option (Bool) := q02 ((q07.f K a0 a3).bind fun t => bif t then (q09.f K a1 a4).bind fun t => bif t then (q1i.f K a2 a5).bind fun t => some t else some false else some false) fun t => some t
noncomputable def e (K : Nat) : En M := fnE (X K) 52 Tryz.func52 ⟨(.cons (.agg (.cons (.fn 47 .unit .unit) (.cons (.fn 48 .unit .unit) (.cons (.fn 50 .unit .unit) (.fn 51 .unit .unit))))) (.cons (.agg (.cons (.ty (.slice q1o)) (.cons (.ty (.slice q3q)) (.ty (.slice ySum))))) (.agg (.cons (.ty (.slice q1o)) (.cons (.ty (.slice q3q)) (.ty (.slice ySum))))))), [], (.ty .bool), []⟩ [] (fun x => f K x.1.2.1.1 x.1.2.1.2.1 x.1.2.1.2.2 x.1.2.2.1 x.1.2.2.2.1 x.1.2.2.2.2) (fun x r => (r, ())) fun x => by
  rw [q0a, f]
  try simp only [el]
  kernel_rfl
end q5p
namespace q7r
noncomputable def f (K : Nat) (a0 : List q0n) (a1 : List q0z) (a2 : List LSum) (a3 : List q0n) (a4 : List q0z) (a5 : List LSum) : Option (Bool) := q5p.f K a0 a1 a2 a3 a4 a5
noncomputable def e (K : Nat) : En M := fnE (m := 0) { hmx := mxd, nt := 13, cs := [q5p.e K] } 12 Tryz.func12 ⟨(.cons (.agg (.cons (.ty (.slice q1o)) (.cons (.ty (.slice q3q)) (.ty (.slice ySum))))) (.agg (.cons (.ty (.slice q1o)) (.cons (.ty (.slice q3q)) (.ty (.slice ySum)))))), [], (.ty .bool), []⟩ [] (fun x => f K x.1.1.1 x.1.1.2.1 x.1.1.2.2 x.1.2.1 x.1.2.2.1 x.1.2.2.2) (fun x r => (r, ())) fun x => by
  rw [q0a, f]
  try simp only [el]
  kernel_rfl
end q7r
namespace q6z
noncomputable def X (K : Nat) : Fx M 0 := { hmx := mxd, nt := 84, cs := [q2e.e K, q21.e K, q9r.e K, z2k.e K, q7r.e K], cp := [(8, [.bool], [58]), (10, [.bool], [64]), (12, [.bool], [4])] }
noncomputable def f (K : Nat) (a0 : List Int) (a1 : List Int) : Option (Bool) := bif decide ((↑(0 : Nat) : Int) ≤ if (6000 : Int) < (↑a0.length : Int) then (6000 : Int) else (↑a0.length : Int)) && decide ((if (6000 : Int) < (↑a0.length : Int) then (6000 : Int) else (↑a0.length : Int)) ≤ (↑a0.length : Int)) && true then bif decide ((↑(0 : Nat) : Int) ≤ if (6000 : Int) < (↑a1.length : Int) then (6000 : Int) else (↑a1.length : Int)) && decide ((if (6000 : Int) < (↑a1.length : Int) then (6000 : Int) else (↑a1.length : Int)) ≤ (↑a1.length : Int)) && true then (q2e.f K (List.drop (0 : Nat) (List.take (if (6000 : Int) < (↑a0.length : Int) then (6000 : Int) else (↑a0.length : Int)).toNat a0))).bind fun t => (q2e.f K (List.drop (0 : Nat) (List.take (if (6000 : Int) < (↑a1.length : Int) then (6000 : Int) else (↑a1.length : Int)).toNat a1))).bind fun t_1 => (q21.f K).bind fun t_2 => bif !t_2 then some false else bif bif false then !t.2.2.2.2.2.2.2.isNil else t.2.2.2.2.2.2.2.isNil then (q9r.f K t.1 t.2.1 t.2.2.1 t.2.2.2.1 t.2.2.2.2.1 t.2.2.2.2.2.1 t.2.2.2.2.2.2.1).bind fun t_3 => q02 (bif bif true then !t_3.2.isNil else t_3.2.isNil then some true else some !(strOf t_3.1).toList == (strOf (List.drop (0 : Nat) (List.take (if (6000 : Int) < (↑a0.length : Int) then (6000 : Int) else (↑a0.length : Int)).toNat a0))).toList) fun t_4 => bif t_4 then some false else q02 (bif bif true then !t.2.2.2.2.2.2.2.isNil else t.2.2.2.2.2.2.2.isNil then some true else some (bif true then !t_1.2.2.2.2.2.2.2.isNil else t_1.2.2.2.2.2.2.2.isNil)) fun t_5 => bif t_5 then some true else q02 (bif t.2.2.2.2.2.2.1 == t_1.2.2.2.2.2.2.1 then (z2k.f K t.1 t.2.1 t.2.2.1 t_1.1 t_1.2.1 t_1.2.2.1).bind fun t_6 => bif t_6 then (q7r.f K t.2.2.2.1 t.2.2.2.2.1 t.2.2.2.2.2.1 t_1.2.2.2.1 t_1.2.2.2.2.1 t_1.2.2.2.2.2.1).bind fun t => some (((strOf (List.drop (0 : Nat) (List.take (if (6000 : Int) < (↑a0.length : Int) then (6000 : Int) else (↑a0.length : Int)).toNat a0))).toList == (strOf (List.drop (0 : Nat) (List.take (if (6000 : Int) < (↑a1.length : Int) then (6000 : Int) else (↑a1.length : Int)).toNat a1))).toList) == t) else some (((strOf (List.drop (0 : Nat) (List.take (if (6000 : Int) < (↑a0.length : Int) then (6000 : Int) else (↑a0.length : Int)).toNat a0))).toList == (strOf (List.drop (0 : Nat) (List.take (if (6000 : Int) < (↑a1.length : Int) then (6000 : Int) else (↑a1.length : Int)).toNat a1))).toList) == false) else some (((strOf (List.drop (0 : Nat) (List.take (if (6000 : Int) < (↑a0.length : Int) then (6000 : Int) else (↑a0.length : Int)).toNat a0))).toList == (strOf (List.drop (0 : Nat) (List.take (if (6000 : Int) < (↑a1.length : Int) then (6000 : Int) else (↑a1.length : Int)).toNat a1))).toList) == false)) fun t => some t else q02 (bif bif true then !t.2.2.2.2.2.2.2.isNil else t.2.2.2.2.2.2.2.isNil then some true else some (bif true then !t_1.2.2.2.2.2.2.2.isNil else t_1.2.2.2.2.2.2.2.isNil)) fun t_3 => bif t_3 then some true else q02 (bif t.2.2.2.2.2.2.1 == t_1.2.2.2.2.2.2.1 then (z2k.f K t.1 t.2.1 t.2.2.1 t_1.1 t_1.2.1 t_1.2.2.1).bind fun t_4 => bif t_4 then (q7r.f K t.2.2.2.1 t.2.2.2.2.1 t.2.2.2.2.2.1 t_1.2.2.2.1 t_1.2.2.2.2.1 t_1.2.2.2.2.2.1).bind fun t => some (((strOf (List.drop (0 : Nat) (List.take (if (6000 : Int) < (↑a0.length : Int) then (6000 : Int) else (↑a0.length : Int)).toNat a0))).toList == (strOf (List.drop (0 : Nat) (List.take (if (6000 : Int) < (↑a1.length : Int) then (6000 : Int) else (↑a1.length : Int)).toNat a1))).toList) == t) else some (((strOf (List.drop (0 : Nat) (List.take (if (6000 : Int) < (↑a0.length : Int) then (6000 : Int) else (↑a0.length : Int)).toNat a0))).toList == (strOf (List.drop (0 : Nat) (List.take (if (6000 : Int) < (↑a1.length : Int) then (6000 : Int) else (↑a1.length : Int)).toNat a1))).toList) == false) else some (((strOf (List.drop (0 : Nat) (List.take (if (6000 : Int) < (↑a0.length : Int) then (6000 : Int) else (↑a0.length : Int)).toNat a0))).toList == (strOf (List.drop (0 : Nat) (List.take (if (6000 : Int) < (↑a1.length : Int) then (6000 : Int) else (↑a1.length : Int)).toNat a1))).toList) == false)) fun t => some t else none else none
noncomputable def e (K : Nat) : En M := fnE (X K) 4 Tryz.func4 ⟨sh2f, [], (.ty .bool), []⟩ [] (fun x => f K x.1.1 x.1.2) (fun x r => (r, ())) fun x => by
  rw [q0a, f]
  try simp only [el]
  kernel_rfl
end q6z
namespace q16
noncomputable def X (K : Nat) : Fx M 0 := { hmx := mxd, nt := 40, cs := [q32.e K, q4n.e K], cp := [(8, [.bool], [2])] }
noncomputable def l0.f (K : Nat) : Nat → List Int → Int → Option ((Unit) ⊕ (Bool))
  | 0, _, _ => none
  | k + 1, a2, a3 => bif decide (a3 < (↑a2.length : Int)) then bif decide ((0 : Int) ≤ a3) && true then a2[a3.toNat]?.bind fun t => bif decide (t < (0 : Int)) then some (Sum.inr false) else l0.f K k a2 (IntKind.i64.wrap (a3 + (1 : Int))) else none else some (Sum.inl ())
noncomputable def l0.b (K : Nat) : Lp M 0 := q25 (X K) 4 40 0 (q0q Tryz.f8 0) ⟨[0, 3, 4, 5], (.cons (.ty .err) (.cons (.ty yI) (.cons (.ty (.slice yI)) (.ty yI)))), []⟩ ⟨[0, 3, 4], (.cons (.ty .err) (.cons (.ty yI) (.ty (.slice yI)))), []⟩ ⟨[2], (.ty .bool), []⟩ K [] (fun k x => l0.f K k x.1.2.2.1 x.1.2.2.2) (fun x r => ((x.1.1, x.1.2.1, x.1.2.2.1), ())) (fun x r => (r, ())) fun k x => by
  rw [q0a, l0.f]
  try simp only [el]
  kernel_rfl
noncomputable def f (K : Nat) (a0 : Err) : Option (Bool) := (q32.f K a0).bind fun t => (q4n.f K a0).bind fun t_1 => (l0.f K K t_1 (0 : Int)).bind fun t_2 => Sum.elim (fun t_3 => q02 (bif bif false then !a0.isNil else a0.isNil then bif (↑t_1.length : Int) == (0 : Int) then some true else bif bif true then !a0.isNil else a0.isNil then bif decide (t ≥ (1 : Int)) then some (decide (t ≤ (21 : Int))) else some false else some false else bif bif true then !a0.isNil else a0.isNil then bif decide (t ≥ (1 : Int)) then some (decide (t ≤ (21 : Int))) else some false else some false) fun t => some t) (fun t => some t) t_2
noncomputable def e (K : Nat) : En M := fnE (X K) 8 Tryz.func8 ⟨(.ty .err), [], (.ty .bool), []⟩ [l0.b K] (fun x => f K x.1) (fun x r => (r, ())) fun x => by
  rw [q0a, f]
  try simp only [el]
  kernel_rfl
end q16
namespace q0p
noncomputable def X (K : Nat) : Fx M 0 := { hmx := mxd, nt := 132, cs := [] }
noncomputable def l4.f (K : Nat) : Nat → Int → Int → List (List Int) → Option (Int)
  | 0, _, _, _ => none
  | k + 1, a0, a3, a9 => bif decide (a3 < (↑a9.length : Int)) then bif decide ((0 : Int) ≤ a3) && true then a9[a3.toNat]?.bind fun t => l4.f K k (if (↑(List.length t) : Int) > a0 then (↑(List.length t) : Int) else a0) (IntKind.i64.wrap (a3 + (1 : Int))) a9 else none else some a0
noncomputable def l4.b (K : Nat) : Lp M 0 := q2i (X K) 19 132 8 (q0q Tryz.f9 4) ⟨[3, 5, 8, 9, 10, 11], (.cons (.ptr 0 0) (.cons (.ty yI) (.cons (.ty yI) (.cons (.ty yI) (.cons (.ptr 1 0) (.ty yI)))))), [hh50, .cells 111 0 sh52]⟩ ⟨[3, 5, 8, 9], sh57, [hh50]⟩ K [] (fun k (x : ((Unit × (Int × (Int × (Int × (Unit × Int))))) × (((List q0n) × ((List q0z) × (List LSum))) × ((Bool × ((List q0n) × ((List (List Int)) × (List Int)))) × Unit)))) => l4.f K k x.1.2.1 x.1.2.2.2.2.2 x.2.2.1.2.2.1) (fun x r => (((), r, x.1.2.2.1, x.1.2.2.2.1), x.2.1, ())) fun k (x : ((Unit × (Int × (Int × (Int × (Unit × Int))))) × (((List q0n) × ((List q0z) × (List LSum))) × ((Bool × ((List q0n) × ((List (List Int)) × (List Int)))) × Unit)))) => by
  refine Eq.trans ?_ q0a.symm
  rw [l4.f]
  try simp only [el]
  kernel_rfl
noncomputable def l3.f (K : Nat) : Nat → Int → Int → Int → List q0z → Option (Int)
  | 0, _, _, _, _ => none
  | k + 1, a0, a1, a2, a4 => bif decide ((0 : Int) ≤ a1) && true then a4[a1.toNat]?.bind fun t => bif decide (a2 < (↑(List.length t.2) : Int)) then bif decide ((0 : Int) ≤ a1) && true then a4[a1.toNat]?.bind fun t => bif decide ((0 : Int) ≤ a2) && true then t.2[a2.toNat]?.bind fun t => (l4.f K K (if (↑(List.length t.1.2.1) : Int) > if (↑(List.length t.2) : Int) > a0 then (↑(List.length t.2) : Int) else a0 then (↑(List.length t.1.2.1) : Int) else if (↑(List.length t.2) : Int) > a0 then (↑(List.length t.2) : Int) else a0) (0 : Int) t.1.2.2).bind fun t => l3.f K k t a1 (IntKind.i64.wrap (a2 + (1 : Int))) a4 else none else none else some a0 else none
noncomputable def l3.b (K : Nat) : Lp M 0 := q2i (X K) 14 132 6 (q0q Tryz.f9 3) ⟨[3, 5, 8, 9], sh57, [hh50]⟩ ⟨[3, 5, 8], sh1e, [hh50]⟩ K [l4.b K] (fun k x => l3.f K k x.1.2.1 x.1.2.2.1 x.1.2.2.2 x.2.1.2.1) (fun x r => (((), r, x.1.2.2.1), x.2)) fun k x => by
  rw [q0a, l3.f]
  try simp only [el]
  kernel_rfl
noncomputable def l2.f (K : Nat) : Nat → Int → Int → List q0z → Option (Int)
  | 0, _, _, _ => none
  | k + 1, a0, a1, a3 => bif decide (a1 < (↑a3.length : Int)) then (l3.f K K a0 a1 (0 : Int) a3).bind fun t => l2.f K k t (IntKind.i64.wrap (a1 + (1 : Int))) a3 else some a0
noncomputable def l2.b (K : Nat) : Lp M 0 := q2i (X K) 11 132 4 (q0q Tryz.f9 2) ⟨[3, 5, 8], sh1e, [hh50]⟩ ⟨[5], (.ty yI), []⟩ K [l3.b K, l4.b K] (fun k x => l2.f K k x.1.2.1 x.1.2.2 x.2.1.2.1) (fun x r => (r, ())) fun k x => by
  rw [q0a, l2.f]
  try simp only [el]
  kernel_rfl
noncomputable def l1.f (K : Nat) : Nat → Int → Int → Int → List q0v → Option (Int)
  | 0, _, _, _, _ => none
  | k + 1, a0, a1, a2, a4 => bif decide ((0 : Int) ≤ a1) && true then a4[a1.toNat]?.bind fun t => bif decide (a2 < (↑(List.length t.2.2.2) : Int)) then bif decide ((0 : Int) ≤ a1) && true then a4[a1.toNat]?.bind fun t => bif decide ((0 : Int) ≤ a2) && true then t.2.2.2[a2.toNat]?.bind fun t => l1.f K k (if (↑(List.length t.1) : Int) > a0 then (↑(List.length t.1) : Int) else a0) a1 (IntKind.i64.wrap (a2 + (1 : Int))) a4 else none else none else some a0 else none
noncomputable def l1.b (K : Nat) : Lp M 0 := q2i (X K) 7 132 2 (q0q Tryz.f9 1) ⟨[2, 3, 5, 6, 7], (.cons (.ptr 0 0) (.cons (.ptr 1 0) (.cons (.ty yI) (.cons (.ty yI) (.ty yI))))), [hh17, hh50]⟩ ⟨[2, 3, 5, 6], sh3f, [hh17, hh50]⟩ K [] (fun k x => l1.f K k x.1.2.2.1 x.1.2.2.2.1 x.1.2.2.2.2 x.2.1.2.1) (fun x r => (((), (), r, x.1.2.2.2.1), x.2)) fun k x => by
  rw [q0a, l1.f]
  try simp only [el]
  kernel_rfl
noncomputable def l0.f (K : Nat) : Nat → Int → Int → List q0v → Option (Int)
  | 0, _, _, _ => none
  | k + 1, a0, a1, a3 => bif decide (a1 < (↑a3.length : Int)) then bif decide ((0 : Int) ≤ a1) && true then a3[a1.toNat]?.bind fun t => bif decide ((0 : Int) ≤ a1) && true then a3[a1.toNat]?.bind fun t_1 => (l1.f K K (if (↑(ByteArray.size t_1.1) : Int) > if (↑(List.length t.2.2.2) : Int) > a0 then (↑(List.length t.2.2.2) : Int) else a0 then (↑(ByteArray.size t_1.1) : Int) else if (↑(List.length t.2.2.2) : Int) > a0 then (↑(List.length t.2.2.2) : Int) else a0) a1 (0 : Int) a3).bind fun t => l0.f K k t (IntKind.i64.wrap (a1 + (1 : Int))) a3 else none else none else some a0
noncomputable def l0.b (K : Nat) : Lp M 0 := q2i (X K) 3 132 0 (q0q Tryz.f9 0) ⟨[2, 3, 5, 6], sh3f, [hh17, hh50]⟩ ⟨[3, 5], sh2, [hh50]⟩ K [l1.b K] (fun k x => l0.f K k x.1.2.2.1 x.1.2.2.2 x.2.1.2.1) (fun x r => (((), r), x.2.2)) fun k x => by
  rw [q0a, l0.f]
  try simp only [el]
  kernel_rfl
noncomputable def f (K : Nat) (a0 : List Int) (a1 : List q0v) (a2 : List q0i) (a3 : List q0n) (a4 : List q0z) (a5 : List LSum) : Option (Int) := (l0.f K K (if (↑a5.length : Int) > if (↑a4.length : Int) > if (↑a3.length : Int) > if (↑a2.length : Int) > if (↑a1.length : Int) > (↑a0.length : Int) then (↑a1.length : Int) else (↑a0.length : Int) then (↑a2.length : Int) else if (↑a1.length : Int) > (↑a0.length : Int) then (↑a1.length : Int) else (↑a0.length : Int) then (↑a3.length : Int) else if (↑a2.length : Int) > if (↑a1.length : Int) > (↑a0.length : Int) then (↑a1.length : Int) else (↑a0.length : Int) then (↑a2.length : Int) else if (↑a1.length : Int) > (↑a0.length : Int) then (↑a1.length : Int) else (↑a0.length : Int) then (↑a4.length : Int) else if (↑a3.length : Int) > if (↑a2.length : Int) > if (↑a1.length : Int) > (↑a0.length : Int) then (↑a1.length : Int) else (↑a0.length : Int) then (↑a2.length : Int) else if (↑a1.length : Int) > (↑a0.length : Int) then (↑a1.length : Int) else (↑a0.length : Int) then (↑a3.length : Int) else if (↑a2.length : Int) > if (↑a1.length : Int) > (↑a0.length : Int) then (↑a1.length : Int) else (↑a0.length : Int) then (↑a2.length : Int) else if (↑a1.length : Int) > (↑a0.length : Int) then (↑a1.length : Int) else (↑a0.length : Int) then (↑a5.length : Int) else if (↑a4.length : Int) > if (↑a3.length : Int) > if (↑a2.length : Int) > if (↑a1.length : Int) > (↑a0.length : Int) then (↑a1.length : Int) else (↑a0.length : Int) then (↑a2.length : Int) else if (↑a1.length : Int) > (↑a0.length : Int) then (↑a1.length : Int) else (↑a0.length : Int) then (↑a3.length : Int) else if (↑a2.length : Int) > if (↑a1.length : Int) > (↑a0.length : Int) then (↑a1.length : Int) else (↑a0.length : Int) then (↑a2.length : Int) else if (↑a1.length : Int) > (↑a0.length : Int) then (↑a1.length : Int) else (↑a0.length : Int) then (↑a4.length : Int) else if (↑a3.length : Int) > if (↑a2.length : Int) > if (↑a1.length : Int) > (↑a0.length : Int) then (↑a1.length : Int) else (↑a0.length : Int) then (↑a2.length : Int) else if (↑a1.length : Int) > (↑a0.length : Int) then (↑a1.length : Int) else (↑a0.length : Int) then (↑a3.length : Int) else if (↑a2.length : Int) > if (↑a1.length : Int) > (↑a0.length : Int) then (↑a1.length : Int) else (↑a0.length : Int) then (↑a2.length : Int) else if (↑a1.length : Int) > (↑a0.length : Int) then (↑a1.length : Int) else (↑a0.length : Int)) (0 : Int) a1).bind fun t => l2.f K K t (0 : Int) a4
noncomputable def e (K : Nat) : En M := fnE (X K) 9 Tryz.func9 ⟨(.cons (.agg (.cons (.ty (.slice yI)) (.cons (.ty (.slice q3c)) (.ty (.slice q19))))) (.agg (.cons (.ty (.slice q1o)) (.cons (.ty (.slice q3q)) (.ty (.slice ySum)))))), [], (.ty yI), []⟩ [l0.b K, l1.b K, l2.b K, l3.b K, l4.b K] (fun x => f K x.1.1.1 x.1.1.2.1 x.1.1.2.2 x.1.2.1 x.1.2.2.1 x.1.2.2.2) (fun x r => (r, ())) fun x => by
  rw [q0a, f]
  try simp only [el]
  kernel_rfl
end q0p
namespace q2j
noncomputable def X (K : Nat) : Fx M 0 := { hmx := mxd, nt := 33, cs := [q2e.e K, q21.e K, q16.e K, q0p.e K], cp := [(3, [.bool], [2])] }
noncomputable def f (K : Nat) (a0 : List Int) : Option (Bool) := bif decide ((↑(0 : Nat) : Int) ≤ if (8000 : Int) < (↑a0.length : Int) then (8000 : Int) else (↑a0.length : Int)) && decide ((if (8000 : Int) < (↑a0.length : Int) then (8000 : Int) else (↑a0.length : Int)) ≤ (↑a0.length : Int)) && true then (q2e.f K (List.drop (0 : Nat) (List.take (if (8000 : Int) < (↑a0.length : Int) then (8000 : Int) else (↑a0.length : Int)).toNat a0))).bind fun t => q02 ((q21.f K).bind fun t_1 => bif t_1 then (q16.f K t.2.2.2.2.2.2.2).bind fun t_2 => bif t_2 then (q0p.f K t.1 t.2.1 t.2.2.1 t.2.2.2.1 t.2.2.2.2.1 t.2.2.2.2.2.1).bind fun t => some (decide (t ≤ IntKind.i64.wrap ((8 : Int) * (↑(List.drop (0 : Nat) (List.take (if (8000 : Int) < (↑a0.length : Int) then (8000 : Int) else (↑a0.length : Int)).toNat a0)).length : Int)))) else some false else some false) fun t => some t else none
noncomputable def e (K : Nat) : En M := fnE (X K) 3 Tryz.func3 ⟨sh0, [], (.ty .bool), []⟩ [] (fun x => f K x.1) (fun x r => (r, ())) fun x => by
  rw [q0a, f]
  try simp only [el]
  kernel_rfl
end q2j
end
end Go.Proofs.YtdjkdmjdcdljmaaGreatDoor.AU
namespace Go.Proofs.YtdjkdmjdcdljmaaGreatDoorY.Runs
def q3d (n : Int) (s : List Int) : Prop := s.Pairwise (· < ·) ∧ ∀ x ∈ s, 0 ≤ x ∧ x < n
def q47 : List (Int × Int) → Int → List (Int × Int)
  | [], x => [(x, 1)]
  | [p], x => if p.1 + p.2 = x then [(p.1, p.2 + 1)] else [p, (x, 1)]
  | p :: q :: r, x => p :: q47 (q :: r) x
def expand (p : Int × Int) : List Int := (List.range p.2.toNat).map fun (i : Nat) => p.1 + (i : Int)
def sepR : Int → List (Int × Int) → Prop
  | _, [] => True
  | nx, p :: r => nx ≤ p.1 ∧ 1 ≤ p.2 ∧ sepR (p.1 + p.2 + 1) r
theorem z6z : ∀ {R : List (Int × Int)} {nx : Int} {p : Int × Int}, sepR nx R → R.getLast? = some p → nx ≤ p.1 ∧ 1 ≤ p.2
  | [], _, _, _, h => by simp at h
  | [q], nx, p, hs, h => by
    simp at h
    subst h
    exact ⟨hs.1, hs.2.1⟩
  | q :: q' :: r, nx, p, hs, h => by
    have h' : (q' :: r).getLast? = some p := by simpa using h
    have := z6z (R := q' :: r) hs.2.2 h'
    exact ⟨by have := hs.1; have := hs.2.1; omega, this.2⟩
theorem z40 : ∀ {R : List (Int × Int)} {nx x : Int}, sepR nx R → nx ≤ x → (∀ p, R.getLast? = some p → p.1 + p.2 ≤ x) → sepR nx (q47 R x)
  | [], nx, x, hs, hx, hl => ⟨hx, by simp, trivial⟩
  | [p], nx, x, hs, hx, hl => by
    have h1 := hl p (by simp)
    unfold q47
    split
    · exact ⟨hs.1, by have := hs.2.1; simp only; omega, trivial⟩
    · exact ⟨hs.1, hs.2.1, by omega, by simp, trivial⟩
  | p :: q :: r, nx, x, hs, hx, hl => by
    refine ⟨hs.1, hs.2.1, z40 (R := q :: r) hs.2.2 ?_ fun y hy => hl y (by simpa using hy)⟩
    obtain ⟨y, hy⟩ : ∃ y, (q :: r).getLast? = some y := ⟨_, List.getLast?_eq_some_getLast (by simp)⟩
    have h1 := z6z hs.2.2 hy
    have h2 := hl y (by simpa using hy)
    omega
theorem z9n {p : Int × Int} (h : 0 ≤ p.2) : expand (p.1, p.2 + 1) = expand p ++ [p.1 + p.2] := by
  unfold expand
  have e : (p.2 + 1).toNat = p.2.toNat + 1 := by omega
  simp only [e, List.range_succ, List.map_append, List.map_cons, List.map_nil]
  rw [Int.toNat_of_nonneg h]
theorem z4s (x : Int) : expand (x, 1) = [x] := by simp [expand]
theorem z4a : ∀ {R : List (Int × Int)} {nx : Int} (x : Int), sepR nx R → (q47 R x).flatMap expand = R.flatMap expand ++ [x]
  | [], nx, x, hs => by simp [q47, z4s]
  | [p], nx, x, hs => by
    unfold q47
    split
    · rename_i h
      have := hs.2.1
      simp only [List.flatMap_cons, List.flatMap_nil, List.append_nil, z9n (p := p) (by omega), h]
    · simp [z4s]
  | p :: q :: r, nx, x, hs => by
    show (p :: q47 (q :: r) x).flatMap expand = _
    rw [List.flatMap_cons, z4a (R := q :: r) x hs.2.2]
    simp
theorem z3f {p : Int × Int} (h : 1 ≤ p.2) : p.1 + p.2 - 1 ∈ expand p := by
  unfold expand
  rw [List.mem_map]
  exact ⟨p.2.toNat - 1, by simp; omega, by omega⟩
theorem j00 {n : Int} : ∀ (s2 s1 : List Int) (R : List (Int × Int)), q3d n (s1 ++ s2) → sepR 0 R → R.flatMap expand = s1 → sepR 0 (s2.foldl q47 R) ∧ (s2.foldl q47 R).flatMap expand = s1 ++ s2
  | [], s1, R, h, hs, hf => ⟨hs, by simpa using hf⟩
  | x :: s2, s1, R, h, hs, hf => by
    have hx := h.2 x (by simp)
    have hp := (List.pairwise_append.1 h.1).2.2
    have h1 : sepR 0 (q47 R x) := z40 hs hx.1 fun p hl => by
      have hm : p ∈ R := List.mem_of_getLast? hl
      have := (z6z hs hl).2
      have hq : p.1 + p.2 - 1 ∈ s1 := by rw [← hf]; exact List.mem_flatMap.2 ⟨p, hm, z3f this⟩
      have := hp _ hq x (by simp)
      omega
    have h2 : (q47 R x).flatMap expand = s1 ++ [x] := by rw [z4a x hs, hf]
    have := j00 s2 (s1 ++ [x]) (q47 R x) (by simpa using h) h1 h2
    simpa using this
end Go.Proofs.YtdjkdmjdcdljmaaGreatDoorY.Runs
namespace Go.Proofs.YtdjkdmjdcdljmaaGreatDoorY.Runs
def byteF (j : Int) (v : BitVec 8) (x : Int) : BitVec 8 := if x / 8 = j then v ||| BitVec.twoPow 8 (x % 8).toNat else v
def z6k (s : List Int) (j : Int) : BitVec 8 := s.foldl (byteF j) 0#8
theorem j15 (s : List Int) (x j : Int) : z6k (s ++ [x]) j = byteF j (z6k s j) x := by simp [z6k]
theorem wrap_u8 {n : Int} (h1 : 0 ≤ n) (h2 : n < 256) : IntKind.u8.wrap n = n := by
  rw [show IntKind.u8.wrap n = n % 256 by simp [Go.IntKind.wrap, Go.IntKind.bits, Go.IntKind.signed]]; omega
theorem put_bit (v : BitVec 8) {k : Nat} (hk : k < 8) : IntKind.u8.wrap (((BitVec.ofInt 8 ((v.toNat : Nat) : Int) ||| BitVec.ofInt 8 (IntKind.u8.wrap ((1 : Int) * (2 : Int) ^ min k 8))).toNat : Nat) : Int) = (((v ||| BitVec.twoPow 8 k).toNat : Nat) : Int) := by
  have e1 : BitVec.ofInt 8 ((v.toNat : Nat) : Int) = v := by rw [BitVec.ofInt_natCast, BitVec.ofNat_toNat, BitVec.setWidth_eq]
  have e2 : BitVec.ofInt 8 (IntKind.u8.wrap ((1 : Int) * (2 : Int) ^ min k 8)) = BitVec.twoPow 8 k := by
    have : ∀ k : Fin 8, BitVec.ofInt 8 (IntKind.u8.wrap ((1 : Int) * (2 : Int) ^ min k.val 8)) = BitVec.twoPow 8 k.val := by decide +kernel
    exact this ⟨k, hk⟩
  rw [e1, e2, wrap_u8 (by omega) (by have := (v ||| BitVec.twoPow 8 k).isLt; omega)]
end Go.Proofs.YtdjkdmjdcdljmaaGreatDoorY.Runs
namespace Go.Proofs.YtdjkdmjdcdljmaaGreatDoorY.Runs
set_option maxRecDepth 100000
def bn (b : Bool) : Nat := if b then 1 else 0
def hB (s p : Nat) (k l h : Bool) : Nat := s + 8 * bn k + 16 * p + 64 * bn l + 128 * bn h
def hOr (s p : Int) : Int := IntKind.i64.wrap (((BitVec.ofInt 64 s ||| BitVec.ofInt 64 (IntKind.i64.wrap (p * (2 : Int) ^ 4))).toNat : Nat) : Int)
theorem get_s : ∀ (s : Fin 8) (p : Fin 4) (k l h : Bool), IntKind.i64.wrap (IntKind.u8.wrap (((BitVec.ofInt 8 ((hB s.val p.val k l h : Nat) : Int) &&& BitVec.ofInt 8 (7 : Int)).toNat : Nat) : Int)) = (s.val : Nat) := by decide +kernel
theorem get_p : ∀ (s : Fin 8) (p : Fin 4) (k l h : Bool), IntKind.i64.wrap (IntKind.u8.wrap (((BitVec.ofInt 8 (Int.fdiv ((hB s.val p.val k l h : Nat) : Int) ((2 : Int) ^ 4)) &&& BitVec.ofInt 8 (3 : Int)).toNat : Nat) : Int)) = (p.val : Nat) := by decide +kernel
theorem get_k : ∀ (s : Fin 8) (p : Fin 4) (k l h : Bool), (IntKind.u8.wrap (((BitVec.ofInt 8 ((hB s.val p.val k l h : Nat) : Int) &&& BitVec.ofInt 8 (8 : Int)).toNat : Nat) : Int) == (0 : Int)) = !k := by decide +kernel
theorem get_l : ∀ (s : Fin 8) (p : Fin 4) (k l h : Bool), (IntKind.u8.wrap (((BitVec.ofInt 8 ((hB s.val p.val k l h : Nat) : Int) &&& BitVec.ofInt 8 (64 : Int)).toNat : Nat) : Int) == (0 : Int)) = !l := by decide +kernel
theorem get_h : ∀ (s : Fin 8) (p : Fin 4) (k l h : Bool), (IntKind.u8.wrap (((BitVec.ofInt 8 ((hB s.val p.val k l h : Nat) : Int) &&& BitVec.ofInt 8 (128 : Int)).toNat : Nat) : Int) == (0 : Int)) = !h := by decide +kernel
end Go.Proofs.YtdjkdmjdcdljmaaGreatDoorY.Runs
namespace Go.Proofs.YtdjkdmjdcdljmaaGreatDoor.AU
open Go.Proofs.YtdjkdmjdcdljmaaGreatDoorY
theorem q0s {n : Int} (h1 : -9223372036854775808 ≤ n) (h2 : n < 9223372036854775808) : IntKind.i64.wrap n = n := by
  rw [Go.IntKind.wrap_i64]; omega
theorem q3v {n : Int} (h1 : 0 ≤ n) (h2 : n < 18446744073709551616) : IntKind.u64.wrap n = n := by
  rw [show IntKind.u64.wrap n = n % 18446744073709551616 by simp [Go.IntKind.wrap, Go.IntKind.bits, Go.IntKind.signed]]; omega
theorem z2o {n : Int} (h1 : 0 ≤ n) (h2 : n < 256) : IntKind.u8.wrap n = n := by
  rw [show IntKind.u8.wrap n = n % 256 by simp [Go.IntKind.wrap, Go.IntKind.bits, Go.IntKind.signed]]; omega
theorem q6g {α : Type} {l l1 l2 : List α} {x : α} (h : l = l1 ++ x :: l2) : l[((l1.length : Nat) : Int).toNat]? = some x := by
  subst h; simp
theorem q3z {α : Type} {l l1 l2 : List α} {x : α} (h : l = l1 ++ x :: l2) : decide (((l1.length : Nat) : Int) < ((l.length : Nat) : Int)) = true := by
  subst h; simp; omega
theorem q3y {α : Type} {l l1 : List α} (h : l = l1 ++ []) : decide (((l1.length : Nat) : Int) < ((l.length : Nat) : Int)) = false := by
  subst h; simp
theorem ge0 {n : Nat} : (decide ((0 : Int) ≤ ((n : Nat) : Int)) && true) = true := by simp
theorem ge0' {n : Nat} : decide ((0 : Int) ≤ ((n : Nat) : Int)) = true := by simp
theorem q10 {α : Type} {l1 : List α} {x : α} (h : l1.length < 1000000000) : IntKind.i64.wrap (((l1.length : Nat) : Int) + (1 : Int)) = (((l1 ++ [x]).length : Nat) : Int) := by
  rw [q0s (by omega) (by omega)]; simp
theorem q18 {α : Type} {l l1 l2 : List α} {x : α} (h : l = l1 ++ x :: l2) : l = (l1 ++ [x]) ++ l2 := by subst h; simp
theorem q04 {A B : Type} {o : Option A} {f : A → Option B} : q02 o f = o.bind f := rfl
end Go.Proofs.YtdjkdmjdcdljmaaGreatDoor.AU
namespace Go.Proofs.YtdjkdmjdcdljmaaGreatDoor.AU
open Go.Proofs.YtdjkdmjdcdljmaaGreatDoorY
set_option maxRecDepth 100000
variable {K : Nat}
def goodB (v : Int) : Bool := (decide (97 ≤ v) && decide (v ≤ 122)) || (decide (48 ≤ v) && decide (v ≤ 57))
def j0s (s : ByteArray) : Prop := 1 ≤ s.size ∧ s.size ≤ 12 ∧ (∀ v, (bytesOf s)[0]? = some v → 97 ≤ v ∧ v ≤ 122) ∧ ∀ v ∈ bytesOf s, goodB v = true
theorem z3g (s : ByteArray) : (bytesOf s).length = s.size := by unfold bytesOf; rw [List.length_map]; rfl
end Go.Proofs.YtdjkdmjdcdljmaaGreatDoor.AU
namespace Go.Proofs.YtdjkdmjdcdljmaaGreatDoor.AU
open Go.Proofs.YtdjkdmjdcdljmaaGreatDoorY
set_option maxRecDepth 100000
variable {K : Nat}
abbrev names (fs : List q0v) (is : List q0i) : List ByteArray := fs.map (·.1) ++ is.map (·.1)
abbrev arities (fs : List q0v) (is : List q0i) : List Int := fs.map (·.2.1) ++ is.map (·.2)
theorem q34 (a b : Int) : q1k.f K a b = some (decide (0 ≤ a) && decide (a < b)) := by
  unfold q1k.f
  by_cases h : 0 ≤ a
  · simp [h, q04]
  · simp [h, q04]
section
variable {fs : List q0v} {is : List q0i} (hl : fs.length + is.length ≤ 1000)
include hl
theorem name_val {i : Nat} (h : i < (names fs is).length) : z3o.f K fs is ((i : Nat) : Int) = some (names fs is)[i] := by
  unfold z3o.f
  by_cases hi : i < fs.length
  · have e1 : decide (((i : Nat) : Int) < ((fs.length : Nat) : Int)) = true := by simp; omega
    simp only [q34, q0b, ge0', e1, Bool.and_true, cond_true, Int.toNat_natCast, List.getElem?_eq_getElem hi]
    simp [List.getElem_append, hi]
  · have e1 : decide (((i : Nat) : Int) < ((fs.length : Nat) : Int)) = false := by simp; omega
    have hi2 : i < fs.length + is.length := by simpa using h
    have w : IntKind.i64.wrap (((i : Nat) : Int) - ((fs.length : Nat) : Int)) = ((i - fs.length : Nat) : Int) := by rw [q0s (by omega) (by omega)]; omega
    have e3 : decide (((i - fs.length : Nat) : Int) < ((is.length : Nat) : Int)) = true := by simp; omega
    simp only [q34, q0b, ge0', e1, Bool.and_true, Bool.and_false, cond_true, cond_false, w, e3, Int.toNat_natCast, List.getElem?_eq_getElem (show i - fs.length < is.length by omega)]
    simp [List.getElem_append, hi]
def fnd : List ByteArray → Nat → ByteArray → Option Nat
  | [], _, _ => none
  | n :: r, i, s => if n.toList == s.toList then some i else fnd r (i + 1) s
def fndI (l : List ByteArray) (s : ByteArray) : Int := match fnd l 0 s with
  | some i => i
  | none => -1
omit hl in
def outF : Option Nat → Unit ⊕ Int
  | some i => .inr i
  | none => .inl ()
theorem find_l0 {s : ByteArray} : ∀ (l2 l1 : List ByteArray) (k : Nat), names fs is = l1 ++ l2 → l2.length < k → q6r.l0.f K k s ((fs.length + is.length : Nat) : Int) ((l1.length : Nat) : Int) fs is = some (outF (fnd l2 l1.length s))
  | l2, l1, 0, h, hk => by omega
  | [], l1, k + 1, h, hk => by
    rw [q6r.l0.f]
    have hn : l1.length = fs.length + is.length := by have := congrArg List.length h; simp at this; omega
    have e : decide (((l1.length : Nat) : Int) < ((fs.length + is.length : Nat) : Int)) = false := by simp; omega
    simp only [e, cond_false, fnd, outF]
  | x :: l2, l1, k + 1, h, hk => by
    rw [q6r.l0.f]
    have hn : l1.length + 1 + l2.length = fs.length + is.length := by have := congrArg List.length h; simp at this; omega
    have e : decide (((l1.length : Nat) : Int) < ((fs.length + is.length : Nat) : Int)) = true := by simp; omega
    have hx : (names fs is)[l1.length]'(by simp; omega) = x := by simp only [h]; simp
    simp only [q0b, e, cond_true, name_val hl (i := l1.length) (by simp; omega), hx, fnd]
    cases hc : x.toList == s.toList with
    | true => simp [outF]
    | false =>
      simp only [cond_false]
      rw [q10 (x := x) (by omega), find_l0 l2 (l1 ++ [x]) k (q18 h) (by simp at hk; omega)]
      simp
theorem j1d (hK : 20000 ≤ K) (s : ByteArray) : q6r.f K fs is s = some (fndI (names fs is) s) := by
  unfold q6r.f
  have w : IntKind.i64.wrap (((fs.length : Nat) : Int) + ((is.length : Nat) : Int)) = ((fs.length + is.length : Nat) : Int) := by rw [q0s (by omega) (by omega)]; simp
  have : q6r.l0.f K K s ((fs.length + is.length : Nat) : Int) (0 : Int) fs is = some (outF (fnd (names fs is) 0 s)) := find_l0 hl (names fs is) [] K rfl (by simp; omega)
  rw [w, this]
  unfold fndI
  cases fnd (names fs is) 0 s <;> rfl
def arI (l : List Int) (i : Int) : Int := if 0 ≤ i then (match l[i.toNat]? with | some v => v | none => -1) else -1
theorem arity_val {i : Int} (hb : -1000000 ≤ i ∧ i ≤ 1000000) : q82.f K fs is i = some (arI (arities fs is) i) := by
  unfold q82.f arI
  by_cases h0 : 0 ≤ i
  · rw [if_pos h0]
    obtain ⟨n, rfl⟩ : ∃ n : Nat, i = n := ⟨i.toNat, by omega⟩
    by_cases hi : n < fs.length
    · have e1 : decide (((n : Nat) : Int) < ((fs.length : Nat) : Int)) = true := by simp; omega
      simp only [q34, ge0', cond_true, e1, q0b, Bool.and_true, Int.toNat_natCast, List.getElem?_eq_getElem hi]
      rw [List.getElem?_append_left (by simpa using hi)]
      simp [hi]
    · have e1 : decide (((n : Nat) : Int) < ((fs.length : Nat) : Int)) = false := by simp; omega
      have w : IntKind.i64.wrap (((n : Nat) : Int) - ((fs.length : Nat) : Int)) = ((n - fs.length : Nat) : Int) := by rw [q0s (by omega) (by omega)]; omega
      simp only [q34, ge0', ge_iff_le, cond_true, cond_false, e1, q04, q0b, Bool.and_true, Bool.and_false, w, Int.toNat_natCast]
      rw [List.getElem?_append_right (by simpa using hi)]
      simp only [List.length_map]
      by_cases hi2 : n < fs.length + is.length
      · have e3 : decide (((n - fs.length : Nat) : Int) < ((is.length : Nat) : Int)) = true := by simp; omega
        simp only [e3, Bool.and_true, cond_true, ge0', q0b, List.getElem?_eq_getElem (show n - fs.length < is.length by omega)]
        simp [List.getElem?_eq_getElem (show n - fs.length < is.length by omega)]
      · have e3 : decide (((n - fs.length : Nat) : Int) < ((is.length : Nat) : Int)) = false := by simp; omega
        simp only [e3, Bool.and_false, cond_false, q0b]
        have e9 : (is.map (·.2))[n - fs.length]? = none := List.getElem?_eq_none (by rw [List.length_map]; omega)
        simp only [e9]
  · rw [if_neg h0]
    have e0 : decide (0 ≤ i) = false := by simp; omega
    have e0' : decide (i ≥ (0 : Int)) = false := by simp; omega
    simp only [q34, e0, e0', Bool.false_and, cond_false, q04, q0b]
end
end Go.Proofs.YtdjkdmjdcdljmaaGreatDoor.AU
namespace Go.Proofs.YtdjkdmjdcdljmaaGreatDoor.AU
open Go.Proofs.YtdjkdmjdcdljmaaGreatDoorY
set_option maxRecDepth 100000
set_option maxHeartbeats 4000000
variable {K : Nat}
def z01 (op : Int) : Bool := (decide (1 ≤ op) && decide (op ≤ 13)) || (op == 15 || op == 17)
def z74 (op : Int) : Bool := (decide (2 ≤ op) && decide (op ≤ 12)) || (op == 14 || op == 16)
def usesB (op : Int) : Bool := decide (4 ≤ op) && decide (op ≤ 12)
def reg (regs v : Int) : Prop := 0 ≤ v ∧ v < regs
structure z5p (nc : Nat) (ar : List Int) (regs : Int) (x : q3n) : Prop where
  op : 1 ≤ x.1 ∧ x.1 ≤ 17
  d : if z01 x.1 then reg regs x.2.1 else x.2.1 = 0
  a : if z74 x.1 then reg regs x.2.2.1 else x.2.2.1 = 0
  b : if usesB x.1 then reg regs x.2.2.2.1 else if x.1 = 13 ∨ x.1 = 14 then reg nc x.2.2.2.1 else if x.1 = 17 then reg ar.length x.2.2.2.1 ∧ arI ar x.2.2.2.1 = x.2.2.2.2.2.length else x.2.2.2.1 = 0
  n : x.1 ≠ 1 → x.2.2.2.2.1 = 0
  args : if x.1 = 17 then ∀ v ∈ x.2.2.2.2.2, reg regs v else x.2.2.2.2.2 = []
theorem z5y {op : Int} (h1 : 1 ≤ op) (h2 : op ≤ 17) : op = 1 ∨ op = 2 ∨ op = 3 ∨ op = 4 ∨ op = 5 ∨ op = 6 ∨ op = 7 ∨ op = 8 ∨ op = 9 ∨ op = 10 ∨ op = 11 ∨ op = 12 ∨ op = 13 ∨ op = 14 ∨ op = 15 ∨ op = 16 ∨ op = 17 := by omega
theorem z76 {α : Type} {c : Bool} {a b : α} : (bif c then some a else some b) = some (bif c then a else b) := by cases c <;> rfl
theorem c_or {a b : Bool} : (bif a then true else b) = (a || b) := by cases a <;> rfl
theorem c_and {a b : Bool} : (bif a then b else false) = (a && b) := by cases a <;> rfl
theorem c_imp {a b c : Bool} : (bif !a then b else c) = bif a then c else b := by cases a <;> rfl
end Go.Proofs.YtdjkdmjdcdljmaaGreatDoor.AU
namespace Go.Proofs.YtdjkdmjdcdljmaaGreatDoor.AU
open Go.Proofs.YtdjkdmjdcdljmaaGreatDoorY
set_option maxRecDepth 100000
set_option maxHeartbeats 4000000
variable {K : Nat}
structure z52 (regs : Int) (nb : Nat) (e : LEnd) : Prop where
  op : 1 ≤ e.1 ∧ e.1 ≤ 3
  a : if e.1 = 1 then e.2.1 = 0 else reg regs e.2.1
  to : if e.1 = 3 then e.2.2.1 = 0 else reg nb e.2.2.1
  els : if e.1 = 2 then reg nb e.2.2.2 else e.2.2.2 = 0
theorem z1b {c : Bool} {v X : Int} (hv : v ≠ 0) (h : (bif c then v else X) = 0) : c = false ∧ X = 0 := by
  cases c with
  | true => exact absurd h hv
  | false => exact ⟨rfl, h⟩
structure z9c (nc : Nat) (ar : List Int) (regs : Int) (nb : Nat) (b : q1b) : Prop where
  len : b.1.length ≤ 12
  insns : ∀ x ∈ b.1, z5p nc ar regs x
  fin : z52 regs nb b.2
structure okFunc (nc : Nat) (ar : List Int) (f : q0v) : Prop where
  name : j0s f.1
  arity : 0 ≤ f.2.1 ∧ f.2.1 ≤ 4
  regs : 1 ≤ f.2.2.1 ∧ f.2.2.1 ≤ 8 ∧ f.2.1 ≤ f.2.2.1
  blocks : 1 ≤ f.2.2.2.length ∧ f.2.2.2.length ≤ 12
  each : ∀ b ∈ f.2.2.2, z9c nc ar f.2.2.1 f.2.2.2.length b
section
variable {cells : List Int} {fs : List q0v} {is : List q0i} (hl : fs.length + is.length ≤ 1000)
include hl
end
end Go.Proofs.YtdjkdmjdcdljmaaGreatDoor.AU
namespace Go.Proofs.YtdjkdmjdcdljmaaGreatDoor.AU
open Go.Proofs.YtdjkdmjdcdljmaaGreatDoorY
set_option maxRecDepth 100000
set_option maxHeartbeats 4000000
variable {K : Nat}
def afterB (is : List q0i) (i : Nat) (m : q0i) : Prop := ∀ j p, i = j + 1 → is[j]? = some p → (Op.bytesLess m.1.toList p.1.toList || m.1.toList == p.1.toList) = false
structure z6t (fs : List q0v) (is : List q0i) (i : Nat) (m : q0i) : Prop where
  name : j0s m.1
  after : afterB is i m
  new : ((fs.length : Nat) : Int) ≤ fndI (names fs is) m.1
  arity : 0 ≤ m.2 ∧ m.2 ≤ 4
structure WF (cells : List Int) (fs : List q0v) (is : List q0i) : Prop where
  ncells : cells.length ≤ 16
  count : fs.length + is.length ≤ 24
  funcs : ∀ (i : Nat) f, fs[i]? = some f → okFunc cells.length (arities fs is) f ∧ ((i : Nat) : Int) ≤ fndI (names fs is) f.1
  imports : ∀ (i : Nat) m, is[i]? = some m → z6t fs is i m
section
variable {cells : List Int} {fs : List q0v} {is : List q0i} (hl : fs.length + is.length ≤ 1000)
include hl
end
theorem argsLen {nc : Nat} {ar : List Int} {regs : Int} {x : q3n} (h : z5p nc ar regs x) (har : ∀ v ∈ ar, v ≤ 4) : x.2.2.2.2.2.length ≤ 4 := by
  have h1 := h.args
  have h2 := h.b
  by_cases h17 : x.1 = 17
  · rw [if_neg (by rw [h17]; decide), if_neg (by omega), if_pos h17] at h2
    obtain ⟨⟨q1, q2⟩, q3⟩ := h2
    unfold arI at q3
    rw [if_pos q1] at q3
    split at q3
    · rename_i v hv
      have := har v (List.mem_of_getElem? hv)
      omega
    · omega
  · rw [if_neg h17] at h1
    rw [h1]; simp
theorem WF.ar_le {cells : List Int} {fs : List q0v} {is : List q0i} (h : WF cells fs is) : ∀ v ∈ arities fs is, v ≤ 4 := by
  intro v hv
  rcases List.mem_append.1 hv with hv | hv
  · obtain ⟨f, hf, rfl⟩ := List.mem_map.1 hv
    obtain ⟨i, hi⟩ := List.mem_iff_getElem?.1 hf
    exact (h.funcs i f hi).1.arity.2
  · obtain ⟨m, hm, rfl⟩ := List.mem_map.1 hv
    obtain ⟨i, hi⟩ := List.mem_iff_getElem?.1 hm
    exact (h.imports i m hi).arity.2
end Go.Proofs.YtdjkdmjdcdljmaaGreatDoor.AU
namespace Go.Proofs.YtdjkdmjdcdljmaaGreatDoor.AU
open Go.Proofs.YtdjkdmjdcdljmaaGreatDoorY
set_option maxRecDepth 100000
set_option maxHeartbeats 4000000
variable {K : Nat}
def encN : Nat → Nat → List Int
  | 0, n => [((n : Nat) : Int)]
  | f + 1, n => if n < 128 then [((n : Nat) : Int)] else (((n % 128 + 128 : Nat)) : Int) :: encN f (n / 128)
abbrev encU (n : Nat) : List Int := encN 9 n
theorem z5k {n : Nat} (h : n < 128) : encU n = [((n : Nat) : Int)] := by simp [encU, encN, h]
theorem j0l : ∀ (f n : Nat), 1 ≤ (encN f n).length ∧ (encN f n).length ≤ f + 1
  | 0, n => by simp [encN]
  | f + 1, n => by
    have := j0l f (n / 128)
    unfold encN
    split <;> simp <;> omega
theorem q86 {n : Nat} (h : n < 18446744073709551616) : (BitVec.ofInt 64 ((n : Nat) : Int)).toNat = n := by
  simp [BitVec.toNat_ofInt]; omega
theorem toNat8_of {n : Nat} (h : n < 256) : (BitVec.ofInt 8 ((n : Nat) : Int)).toNat = n := by
  simp [BitVec.toNat_ofInt]; omega
theorem and127 {n : Nat} (h : n < 18446744073709551616) : (BitVec.ofInt 64 ((n : Nat) : Int) &&& BitVec.ofInt 64 (127 : Int)).toNat = n % 128 := by
  rw [BitVec.toNat_and, q86 h]
  show n &&& 127 = n % 128
  exact Nat.and_two_pow_sub_one_eq_mod n 7
theorem and127b {n : Nat} (h : n < 256) : (BitVec.ofInt 8 ((n : Nat) : Int) &&& BitVec.ofInt 8 (127 : Int)).toNat = n % 128 := by
  rw [BitVec.toNat_and, toNat8_of h]
  show n &&& 127 = n % 128
  exact Nat.and_two_pow_sub_one_eq_mod n 7
theorem or128 : ∀ n : Fin 128, (BitVec.ofInt 8 ((n.val : Nat) : Int) ||| BitVec.ofInt 8 (128 : Int)).toNat = n.val + 128 := by decide +kernel
theorem z2n {b : Int} {l : List Int} (h : l.length < 4000000) : q0o.f K b l = some (l ++ [b]) := by
  unfold q0o.f
  have : Nat.ble (l.length + [b].length) 4000000 = true := Nat.ble_eq_true_of_le (by simp; omega)
  rw [this]; rfl
theorem uint_l0 : ∀ (f n k : Nat) (l : List Int), n < 128 ^ (f + 1) → n < 18446744073709551616 → f < k → l.length + f + 1 ≤ 4000000 → ∃ m : Nat, m < 128 ∧ ∃ l', q0f.l0.f K k ((n : Nat) : Int) l = some (((m : Nat) : Int), l') ∧ l' ++ [((m : Nat) : Int)] = l ++ encN f n ∧ l'.length < 4000000
  | f, n, 0, l, hn, hn2, hk, hl => by omega
  | f, n, k + 1, l, hn, hn2, hk, hl => by
    rw [q0f.l0.f]
    by_cases h : n < 128
    · have e : decide (((n : Nat) : Int) > (127 : Int)) = false := by simp; omega
      simp only [e, cond_false]
      refine ⟨n, h, l, rfl, ?_, by omega⟩
      cases f <;> simp [encN, h]
    · have e : decide (((n : Nat) : Int) > (127 : Int)) = true := by simp; omega
      have b1 : IntKind.u8.wrap (IntKind.u64.wrap (((BitVec.ofInt 64 ((n : Nat) : Int) &&& BitVec.ofInt 64 (127 : Int)).toNat : Nat) : Int)) = ((n % 128 : Nat) : Int) := by
        rw [and127 hn2, q3v (by omega) (by omega), z2o (by omega) (by omega)]
      have b2 : IntKind.u8.wrap (((BitVec.ofInt 8 ((n % 128 : Nat) : Int) ||| BitVec.ofInt 8 (128 : Int)).toNat : Nat) : Int) = ((n % 128 + 128 : Nat) : Int) := by
        rw [or128 ⟨n % 128, by omega⟩, z2o (by omega) (by omega)]
      have b3 : (((n : Nat) : Int).fdiv ((2 : Int) ^ 7)) = ((n / 128 : Nat) : Int) := by
        rw [Int.fdiv_eq_ediv_of_nonneg _ (by decide)]; simp
      match f, hn, hk, hl with
      | 0, hn, _, _ => exact absurd hn (by simpa using h)
      | f + 1, hn, hk, hl =>
        simp only [e, cond_true, b1, b2, b3, z2n (K := K) (l := l) (show l.length < 4000000 by omega), q0b]
        obtain ⟨m, h1, l', h2, h3, h4⟩ := uint_l0 f (n / 128) k (l ++ [((n % 128 + 128 : Nat) : Int)]) (by rw [Nat.pow_succ] at hn; exact Nat.div_lt_of_lt_mul (by rw [Nat.mul_comm]; exact hn)) (by omega) (by omega) (by simp; omega)
        refine ⟨m, h1, l', h2, ?_, h4⟩
        rw [h3]
        simp [encN, h]
theorem z6d (hK : 20000 ≤ K) {n : Nat} {l : List Int} (hn : n < 18446744073709551616) (hl : l.length + 10 ≤ 4000000) : q0f.f K ((n : Nat) : Int) l = some (l ++ encU n) := by
  unfold q0f.f
  obtain ⟨m, h1, l', h2, h3, h4⟩ := uint_l0 (K := K) 9 n K l (by omega) hn (by omega) hl
  rw [h2]
  simp only [q0b, z2o (n := ((m : Nat) : Int)) (by omega) (by omega), z2n (K := K) (l := l') h4, h3]
theorem or_add {a b i : Nat} (h : b < 2 ^ i) : b ||| a * 2 ^ i = b + a * 2 ^ i := by
  rw [Nat.or_comm, ← Nat.shiftLeft_eq, Nat.add_comm]
  exact (Nat.shiftLeft_add_eq_or_of_lt h a).symm
end Go.Proofs.YtdjkdmjdcdljmaaGreatDoor.AU
namespace Go.Proofs.YtdjkdmjdcdljmaaGreatDoor.AU
open Go.Proofs.YtdjkdmjdcdljmaaGreatDoorY
set_option maxRecDepth 100000
set_option maxHeartbeats 4000000
variable {K : Nat}
def i64 (n : Int) : Prop := -9223372036854775808 ≤ n ∧ n < 9223372036854775808
def zz (n : Int) : Nat := if 0 ≤ n then (2 * n).toNat else (-2 * n - 1).toNat
abbrev encI (n : Int) : List Int := encU (zz n)
theorem zz_lt {n : Int} (h : i64 n) : zz n < 18446744073709551616 := by unfold zz; unfold i64 at h; split <;> omega
theorem xor_ones {n : Nat} (h : n < 18446744073709551616) : (BitVec.ofInt 64 ((n : Nat) : Int) ^^^ BitVec.allOnes 64).toNat = 18446744073709551615 - n := by
  rw [BitVec.xor_allOnes, BitVec.toNat_not, q86 h]
theorem ofInt_m1 : BitVec.ofInt 64 (-1 : Int) = BitVec.allOnes 64 := by decide
theorem xor_zero' {n : Nat} (h : n < 18446744073709551616) : (BitVec.ofInt 64 ((n : Nat) : Int) ^^^ BitVec.ofInt 64 (0 : Int)).toNat = n := by
  have : BitVec.ofInt 64 (0 : Int) = 0#64 := by decide
  rw [this, BitVec.xor_zero, q86 h]
theorem zag_val {n : Int} (h : i64 n) : IntKind.i64.wrap (((BitVec.ofInt 64 (IntKind.i64.wrap (((zz n : Nat) : Int).fdiv ((2 : Int) ^ 1))) ^^^ BitVec.ofInt 64 (IntKind.i64.wrap ((0 : Int) - IntKind.i64.wrap (IntKind.u64.wrap (((BitVec.ofInt 64 ((zz n : Nat) : Int) &&& BitVec.ofInt 64 (1 : Int)).toNat : Nat) : Int))))).toNat : Nat) : Int) = n := by
  have hz := zz_lt h
  have e1 : ((zz n : Nat) : Int).fdiv ((2 : Int) ^ 1) = ((zz n / 2 : Nat) : Int) := by rw [Int.fdiv_eq_ediv_of_nonneg _ (by decide)]; simp
  have e2 : (BitVec.ofInt 64 ((zz n : Nat) : Int) &&& BitVec.ofInt 64 (1 : Int)).toNat = zz n % 2 := by
    rw [BitVec.toNat_and, q86 hz]
    show zz n &&& 1 = zz n % 2
    exact Nat.and_two_pow_sub_one_eq_mod (zz n) 1
  rw [e1, e2, q0s (n := ((zz n / 2 : Nat) : Int)) (by omega) (by omega), q3v (by omega) (by omega), q0s (n := ((zz n % 2 : Nat) : Int)) (by omega) (by omega), q0s (n := (0 : Int) - ((zz n % 2 : Nat) : Int)) (by omega) (by omega)]
  unfold i64 at h
  by_cases h0 : 0 ≤ n
  · have e : zz n = (2 * n).toNat := by unfold zz; rw [if_pos h0]
    have e3 : (0 : Int) - ((zz n % 2 : Nat) : Int) = 0 := by omega
    rw [e3, xor_zero' (by omega), q0s (by omega) (by omega)]
    omega
  · have e : zz n = (-2 * n - 1).toNat := by unfold zz; rw [if_neg h0]
    have e3 : (0 : Int) - ((zz n % 2 : Nat) : Int) = -1 := by omega
    rw [e3, ofInt_m1, xor_ones (by omega), Go.IntKind.wrap_i64]
    omega
def hasB' (op : Int) : Bool := usesB op || (op == 13 || (op == 14 || op == 17))
def q7z (x : q3n) : List Int :=
  [x.1] ++ ((if z01 x.1 then [x.2.1] else []) ++ ((if z74 x.1 then [x.2.2.1] else []) ++ ((if hasB' x.1 then [x.2.2.2.1] else []) ++
    ((if x.1 = 1 then encI x.2.2.2.2.1 else []) ++ (if x.1 = 17 then ((x.2.2.2.2.2.length : Nat) : Int) :: x.2.2.2.2.2 else [])))))
structure lowI (x : q3n) : Prop where
  op : 1 ≤ x.1 ∧ x.1 ≤ 17
  d : 0 ≤ x.2.1 ∧ x.2.1 < 128
  a : 0 ≤ x.2.2.1 ∧ x.2.2.1 < 128
  b : 0 ≤ x.2.2.2.1 ∧ x.2.2.2.1 < 128
  n : i64 x.2.2.2.2.1
  len : x.2.2.2.2.2.length ≤ 4
  args : ∀ v ∈ x.2.2.2.2.2, 0 ≤ v ∧ v < 128
theorem z5p.low {nc : Nat} {ar : List Int} {regs : Int} {x : q3n} (h : z5p nc ar regs x) (hr : regs ≤ 8) (hc : nc ≤ 16) (har : ar.length ≤ 24) (ha : ∀ v ∈ ar, v ≤ 4) (hn : i64 x.2.2.2.2.1) : lowI x := by
  obtain ⟨op, d, a, b, n, g⟩ := h
  refine ⟨op, ?_, ?_, ?_, hn, argsLen ⟨op, d, a, b, n, g⟩ ha, ?_⟩
  · split at d
    · unfold reg at d; omega
    · omega
  · split at a
    · unfold reg at a; omega
    · omega
  · split at b
    · unfold reg at b; omega
    · split at b
      · unfold reg at b; omega
      · split at b
        · have := b.1; unfold reg at this; omega
        · omega
  · split at g
    · intro v hv; have := g v hv; unfold reg at this; omega
    · rw [g]; intro v hv; simp at hv
end Go.Proofs.YtdjkdmjdcdljmaaGreatDoor.AU
namespace Go.Proofs.YtdjkdmjdcdljmaaGreatDoor.AU
open Go.Proofs.YtdjkdmjdcdljmaaGreatDoorY
set_option maxRecDepth 100000
set_option maxHeartbeats 4000000
variable {K : Nat}
theorem q61 (n : Nat) : (encU n).length ≤ 10 := (j0l 9 n).2
def encEnd (e : LEnd) : List Int := [e.1] ++ ((if e.1 = 1 then [] else [e.2.1]) ++ ((if e.1 = 3 then [] else [e.2.2.1]) ++ (if e.1 = 2 then [e.2.2.2] else [])))
structure lowE (e : LEnd) : Prop where
  op : 1 ≤ e.1 ∧ e.1 ≤ 3
  a : 0 ≤ e.2.1 ∧ e.2.1 < 128
  t : 0 ≤ e.2.2.1 ∧ e.2.2.1 < 128
  e : 0 ≤ e.2.2.2 ∧ e.2.2.2 < 128
theorem z52.low {regs : Int} {nb : Nat} {e : LEnd} (h : z52 regs nb e) (hr : regs ≤ 8) (hb : nb ≤ 12) : lowE e := by
  obtain ⟨op, a, t, el⟩ := h
  refine ⟨op, ?_, ?_, ?_⟩
  · split at a
    · omega
    · unfold reg at a; omega
  · split at t
    · omega
    · unfold reg at t; omega
  · split at el
    · unfold reg at el; omega
    · omega
def q6h (b : q1b) : List Int := ((b.1.length : Nat) : Int) :: (b.1.flatMap q7z ++ encEnd b.2)
structure lowB (b : q1b) : Prop where
  len : b.1.length ≤ 12
  insns : ∀ x ∈ b.1, lowI x
  fin : lowE b.2
def z6j (s : ByteArray) : List Int := ((s.size : Nat) : Int) :: bytesOf s
def z05 (f : q0v) : List Int := z6j f.1 ++ (f.2.1 :: f.2.2.1 :: ((f.2.2.2.length : Nat) : Int) :: f.2.2.2.flatMap q6h)
structure lowF (f : q0v) : Prop where
  name : f.1.size ≤ 12
  arity : 0 ≤ f.2.1 ∧ f.2.1 ≤ 4
  regs : 0 ≤ f.2.2.1 ∧ f.2.2.1 ≤ 8
  len : f.2.2.2.length ≤ 12
  blocks : ∀ b ∈ f.2.2.2, lowB b
def z3m (m : q0i) : List Int := z6j m.1 ++ [m.2]
def q8u (cells : List Int) (fs : List q0v) (is : List q0i) : List Int :=
  [65, 86, 1] ++ (((cells.length : Nat) : Int) :: (cells.flatMap encI ++ (((fs.length : Nat) : Int) :: (fs.flatMap z05 ++ (((is.length : Nat) : Int) :: is.flatMap z3m)))))
structure lowM (cells : List Int) (fs : List q0v) (is : List q0i) : Prop where
  clen : cells.length ≤ 16
  cells : ∀ c ∈ cells, i64 c
  len : fs.length + is.length ≤ 24
  funcs : ∀ f ∈ fs, lowF f
  imports : ∀ m ∈ is, m.1.size ≤ 12 ∧ 0 ≤ m.2 ∧ m.2 ≤ 4
end Go.Proofs.YtdjkdmjdcdljmaaGreatDoor.AU
namespace Go.Proofs.YtdjkdmjdcdljmaaGreatDoor.AU
open Go.Proofs.YtdjkdmjdcdljmaaGreatDoorY
set_option maxRecDepth 100000
set_option maxHeartbeats 4000000
variable {K : Nat}
noncomputable def optT {R : Type} (c : Bool) (K : Nat) (most : Int) (e : Err) (l : List Int) (p : Int) (f : Int → Err → Int → Option R) : Option R := bif c then (q0h.f K most e l p).bind fun t => f t.1 t.2.1 t.2.2 else f 0 e p
theorem j1p (e : Err) (l : List Int) (p : Int) : q2g.f K e l p = (q2m.f K 17 e l p).bind fun t => (q7a.f K t.1).bind fun c => optT c.1 K 7 t.2.1 l t.2.2 fun d e p => optT c.2.1 K 7 e l p fun a e p => optT c.2.2.1 K c.2.2.2.1 e l p fun b e p =>
    bif t.1 == 1 then (q1a.f K e l p).bind fun s => some (t.1, d, a, b, s.1, [], s.2.1, s.2.2) else bif t.1 == 17 then (q0h.f K 4 e l p).bind fun u => (q2g.l0.f K K u.1 0 u.2.1 l u.2.2 []).bind fun w => some (t.1, d, a, b, 0, w.2.2, w.1, w.2.1) else some (t.1, d, a, b, 0, [], e, p) := by
  rfl
def z0j (op : Int) : Int := if op = 13 ∨ op = 14 then 15 else if op = 17 then 23 else 7
theorem j12 {op : Int} (h1 : 1 ≤ op) (h2 : op ≤ 17) : q7a.f K op = some (z01 op, z74 op, hasB' op, z0j op, true) := by
  rcases z5y h1 h2 with rfl | rfl | rfl | rfl | rfl | rfl | rfl | rfl | rfl | rfl | rfl | rfl | rfl | rfl | rfl | rfl | rfl <;> simp [q7a.f, z01, z74, usesB, hasB', z0j]
structure z8d (x : q3n) : Prop where
  op : 1 ≤ x.1 ∧ x.1 ≤ 17
  d : 0 ≤ x.2.1 ∧ x.2.1 ≤ 7 ∧ (z01 x.1 = false → x.2.1 = 0)
  a : 0 ≤ x.2.2.1 ∧ x.2.2.1 ≤ 7 ∧ (z74 x.1 = false → x.2.2.1 = 0)
  b : 0 ≤ x.2.2.2.1 ∧ x.2.2.2.1 ≤ z0j x.1 ∧ (hasB' x.1 = false → x.2.2.2.1 = 0)
  n : i64 x.2.2.2.2.1 ∧ (x.1 ≠ 1 → x.2.2.2.2.1 = 0)
  len : x.2.2.2.2.2.length ≤ 4 ∧ (x.1 ≠ 17 → x.2.2.2.2.2 = [])
  args : ∀ v ∈ x.2.2.2.2.2, 0 ≤ v ∧ v ≤ 7
end Go.Proofs.YtdjkdmjdcdljmaaGreatDoor.AU
namespace Go.Proofs.YtdjkdmjdcdljmaaGreatDoor.AU
open Go.Proofs.YtdjkdmjdcdljmaaGreatDoorY
set_option maxRecDepth 100000
set_option maxHeartbeats 4000000
variable {K : Nat}
structure tightE (e : LEnd) : Prop where
  op : 1 ≤ e.1 ∧ e.1 ≤ 3
  a : 0 ≤ e.2.1 ∧ e.2.1 ≤ 7 ∧ (e.1 = 1 → e.2.1 = 0)
  t : 0 ≤ e.2.2.1 ∧ e.2.2.1 ≤ 11 ∧ (e.1 = 3 → e.2.2.1 = 0)
  e : 0 ≤ e.2.2.2 ∧ e.2.2.2 ≤ 11 ∧ (e.1 ≠ 2 → e.2.2.2 = 0)
structure z8g (b : q1b) : Prop where
  len : b.1.length ≤ 12
  insns : ∀ x ∈ b.1, z8d x
  fin : tightE b.2
end Go.Proofs.YtdjkdmjdcdljmaaGreatDoor.AU
namespace Go.Proofs.YtdjkdmjdcdljmaaGreatDoor.AU
open Go.Proofs.YtdjkdmjdcdljmaaGreatDoorY
set_option maxRecDepth 100000
set_option maxHeartbeats 4000000
variable {K : Nat}
def wide (cells : List Int) (fs : List q0v) : Prop := (∀ c ∈ cells, i64 c) ∧ ∀ f ∈ fs, ∀ b ∈ f.2.2.2, ∀ x ∈ b.1, i64 x.2.2.2.2.1
theorem ar_len {fs : List q0v} {is : List q0i} : (arities fs is).length = fs.length + is.length := by simp
theorem WF.low {cells : List Int} {fs : List q0v} {is : List q0i} (h : WF cells fs is) (hw : wide cells fs) : lowM cells fs is := by
  refine ⟨h.ncells, hw.1, h.count, fun f hf => ?_, fun m hm => ?_⟩
  · obtain ⟨i, hi⟩ := List.mem_iff_getElem?.1 hf
    obtain ⟨ok, _⟩ := h.funcs i f hi
    have hr := ok.regs
    refine ⟨ok.name.2.1, ok.arity, ⟨by omega, by omega⟩, ok.blocks.2, fun b hb => ?_⟩
    have okb := ok.each b hb
    exact ⟨okb.len, fun x hx => (okb.insns x hx).low hr.2.1 h.ncells (by rw [ar_len]; exact h.count) h.ar_le (hw.2 f hf b hb x hx), okb.fin.low hr.2.1 ok.blocks.2⟩
  · obtain ⟨i, hi⟩ := List.mem_iff_getElem?.1 hm
    have ok := h.imports i m hi
    exact ⟨ok.name.2.1, ok.arity⟩
end Go.Proofs.YtdjkdmjdcdljmaaGreatDoor.AU
namespace Go.Proofs.YtdjkdmjdcdljmaaGreatDoor.AU
open Go.Proofs.YtdjkdmjdcdljmaaGreatDoorY
set_option maxRecDepth 1000000
set_option maxHeartbeats 4000000
theorem runs_n (n : Nat) : q21.f (n + 200) = some true := by kernel_rfl
theorem runs_val {K : Nat} (hK : 20000 ≤ K) : q21.f K = some true := by
  obtain ⟨n, rfl⟩ : ∃ n, K = n + 200 := ⟨K - 200, by omega⟩
  exact runs_n n
end Go.Proofs.YtdjkdmjdcdljmaaGreatDoor.AU
