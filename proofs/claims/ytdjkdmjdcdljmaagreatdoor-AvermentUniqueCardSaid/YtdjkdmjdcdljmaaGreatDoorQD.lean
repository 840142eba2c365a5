/- The law AvermentUnique, in parts: this text is packed by program (names shortened). No condition. -/
import Derived.Test.YtdjkdmjdcdljmaaGreatDoorProg
import Derived.Test.YtdjkdmjdcdljmaaGreatDoorQC
set_option linter.unusedVariables false
set_option linter.unusedSimpArgs false
namespace Go.Proofs.YtdjkdmjdcdljmaaGreatDoor.AU
open Go.Proofs.YtdjkdmjdcdljmaaGreatDoorY
noncomputable section
set_option maxRecDepth 1000000
set_option maxHeartbeats 4000000
abbrev yI : Ty := .int .i64
abbrev q2h : Ty := (.pair .str yI)
abbrev q0g := ByteArray × Int
abbrev yKnown : Ty := (.pair .bool yI)
abbrev LKnown := Bool × Int
abbrev z95 : Ty := (.pair yI yI)
abbrev j4c := Int × Int
abbrev yReader : Ty := (.pair (.slice (.int .u8)) yI)
abbrev LReader := List Int × Int
abbrev yEnd : Ty := (.pair yI (.pair yI z95))
abbrev LEnd := Int × Int × j4c
abbrev q15 : Ty := (.pair yI (.pair yKnown (.pair z95 yI)))
abbrev q0l := Int × LKnown × j4c × Int
abbrev yFrame : Ty := (.pair yI (.pair yI (.pair yI (.pair (.slice yI) (.slice yI)))))
abbrev q6t : Ty := (.pair yI (.pair yI (.pair yI (.pair yI (.pair yI (.slice yI))))))
abbrev q3n := Int × Int × Int × Int × Int × List Int
abbrev yState : Ty := (.pair .bool (.pair (.slice q15) (.slice (.slice yI))))
abbrev LState := Bool × List q0l × List (List Int)
abbrev q3e : Ty := (.pair yState (.slice yI))
abbrev q1l := LState × List Int
abbrev q2r : Ty := (.pair (.slice q6t) yEnd)
abbrev q1m := List q3n × LEnd
abbrev q9k : Ty := (.pair (.slice q6t) (.pair (.slice yI) yEnd))
abbrev z9t := List q3n × List Int × LEnd
abbrev ySum : Ty := (.pair .bool (.pair (.slice q15) (.pair .bool q15)))
abbrev LSum := Bool × List q0l × Bool × q0l
abbrev q3x : Ty := (.pair .str (.pair yI (.pair yI (.slice q2r))))
abbrev q0x := ByteArray × Int × Int × List q1m
abbrev q4c : Ty := (.pair ySum (.slice q3e))
abbrev q06 := LSum × List q1l
abbrev q9t : Ty := (.pair (.slice q3x) (.pair (.slice (.slice q9k)) (.slice yI)))
abbrev q5l := List q0x × List (List z9t) × List Int
noncomputable def M : Cfg := { P := Tryz.prog, ty := fun t => bif Nat.beq t 2 then some yI else bif Nat.beq t 3 then some yI else bif Nat.beq t 5 then some (.int .u8) else bif Nat.beq t 74 then some q15 else bif Nat.beq t 78 then some q3x else bif Nat.beq t 80 then some ySum else bif Nat.beq t 83 then some q4c else bif Nat.beq t 86 then some q2h else bif Nat.beq t 100 then some (.slice yI) else bif Nat.beq t 106 then some q2r else bif Nat.beq t 111 then some q3e else bif Nat.beq t 144 then some q3x else bif Nat.beq t 151 then some q15 else bif Nat.beq t 153 then some ySum else bif Nat.beq t 156 then some q4c else bif Nat.beq t 160 then some q3e else bif Nat.beq t 186 then some q6t else bif Nat.beq t 190 then some q2r else bif Nat.beq t 196 then some yFrame else bif Nat.beq t 229 then some (.pair yI z95) else bif Nat.beq t 239 then some q6t else bif Nat.beq t 268 then some (.slice q9k) else bif Nat.beq t 270 then some q9k else bif Nat.beq t 316 then some (.pair (.int .u8) (.ptr yI)) else bif Nat.beq t 367 then some z95 else none, frz := fun t => bif Nat.beq t 268 then some (.slice q9k) else none, made := fun t => bif Nat.beq t 107 then some (3, yI) else none, errno := 98, placed := 203 }
theorem mxd : M.P.follows .mixedOrders = true := by kernel_rfl
abbrev sh0 : Sh := (.ty (.slice (.int .u8)))
abbrev hh1 : HSh := .cells 167 0 (.cons (.ty (.slice (.int .u8))) (.ty yI))
abbrev sh2 : Sh := (.cons (.ptr 0 0) (.ty yI))
abbrev sh3 : Sh := (.cons (.ty (.slice (.int .u8))) (.ty .err))
abbrev hh4 : HSh := .cells 65 0 (.cons (.ptr 1 0) (.ty .err))
abbrev sh5 : Sh := (.cons (.ptr 0 0) (.ty (.int .u64)))
abbrev hh6 : HSh := .cells 255 0 (.cons (.ptr 1 0) (.ty .err))
abbrev sh7 : Sh := (.agg (.cons (.ty yI) (.cons (.ty yI) (.cons (.ty yI) (.cons (.ty yI) (.cons (.ty yI) (.ty (.slice yI))))))))
abbrev sh8 : Sh := (.cons (.ptr 0 0) (.cons (.ptr 2 0) (.cons (.ptr 3 0) (.cons (.ty yI) (.ty yI)))))
abbrev sh9 : Sh := (.cons (.ty yI) (.cons (.ty yI) (.cons (.ty yI) (.cons (.ty yI) (.cons (.ty yI) (.own 4))))))
abbrev sha : Sh := (.cons (.ty yI) (.cons (.ty yI) (.cons (.ty yI) (.cons (.ty yI) (.cons (.ty yI) (.own 5))))))
abbrev shb : Sh := (.agg (.cons (.ty yI) (.cons (.ty yI) (.cons (.ty yI) (.ty yI)))))
abbrev shc : Sh := (.agg (.cons (.ty (.slice q6t)) (.cons (.ty yI) (.cons (.ty yI) (.cons (.ty yI) (.ty yI))))))
abbrev hsd : List HSh := [hh6, hh1, .cells 106 0 (.cons (.own 4) (.cons (.ty yI) (.cons (.ty yI) (.cons (.ty yI) (.ty yI))))), .cells 106 0 (.cons (.own 5) (.cons (.ty yI) (.cons (.ty yI) (.cons (.ty yI) (.ty yI))))), .list 239 q6t [], .list 239 q6t []]
abbrev she : Sh := (.cons (.ptr 0 0) (.cons (.ptr 2 0) (.ptr 3 0)))
abbrev shf : Sh := (.agg (.cons (.ty .str) (.cons (.ty yI) (.cons (.ty yI) (.ty (.slice q2r))))))
abbrev sh10 : Sh := (.cons (.ty .str) (.cons (.ty yI) (.cons (.ty yI) (.own 4))))
abbrev sh11 : Sh := (.cons (.ty .str) (.cons (.ty yI) (.cons (.ty yI) (.own 5))))
abbrev hs12 : List HSh := [hh6, hh1, .cells 78 0 sh10, .cells 78 0 sh11, .list 106 q2r [], .list 106 q2r []]
abbrev sh13 : Sh := (.agg (.cons (.ty (.slice yI)) (.cons (.ty (.slice q3x)) (.ty (.slice q2h)))))
abbrev hs14 : List HSh := [hh6, hh1, .cells 27 0 (.cons (.own 4) (.cons (.own 5) (.own 6))), .cells 27 0 (.cons (.own 7) (.cons (.own 8) (.own 9))), .list 2 yI [], .list 78 q3x [], .list 86 q2h [], .list 2 yI [], .list 78 q3x [], .list 86 q2h []]
abbrev sh15 : Sh := (.cons (.agg (.cons (.ty (.slice yI)) (.cons (.ty (.slice q3x)) (.ty (.slice q2h))))) (.ty yI))
abbrev sh16 : Sh := (.cons (.ty (.slice yI)) (.cons (.ty (.slice q3x)) (.ty (.slice q2h))))
abbrev hh17 : HSh := .cells 27 0 sh16
abbrev ss18 : SSh := ⟨[], .unit, []⟩
abbrev sh19 : Sh := (.cons (.ty .str) (.cons (.ty yI) (.cons (.ty yI) (.ty (.slice q2r)))))
abbrev hh1a : HSh := .cells 78 0 sh19
abbrev hh1b : HSh := .cells 106 0 (.cons (.ty (.slice q6t)) (.cons (.ty yI) (.cons (.ty yI) (.cons (.ty yI) (.ty yI)))))
abbrev sh1c : Sh := (.cons (.ptr 0 0) (.ptr 1 0))
abbrev ss1d : SSh := ⟨[6], (.ty .err), []⟩
abbrev sh1e : Sh := (.cons (.ptr 0 0) (.cons (.ty yI) (.ty yI)))
abbrev sh1f : Sh := (.cons (.agg (.cons (.ty (.slice yI)) (.cons (.ty (.slice q3x)) (.ty (.slice q2h))))) (.ty .err))
abbrev sh20 : Sh := (.cons (.ty yI) (.ty .bool))
abbrev sh21 : Sh := (.agg (.cons (.ty .bool) (.ty yI)))
abbrev sh22 : Sh := (.agg (.cons (.ty yI) (.cons (.ty .bool) (.cons (.ty yI) (.cons (.ty yI) (.cons (.ty yI) (.ty yI)))))))
abbrev hs23 : List HSh := [hh4, hh1, .cells 80 0 (.cons (.ty .bool) (.cons (.own 4) (.cons (.ty .bool) (.cons (.ty yI) (.cons (.ty .bool) (.cons (.ty yI) (.cons (.ty yI) (.cons (.ty yI) (.ty yI))))))))), .cells 80 0 (.cons (.ty .bool) (.cons (.own 5) (.cons (.ty .bool) (.cons (.ty yI) (.cons (.ty .bool) (.cons (.ty yI) (.cons (.ty yI) (.cons (.ty yI) (.ty yI))))))))), .list 74 q15 [], .list 74 q15 []]
abbrev sh24 : Sh := (.ty (.slice yI))
abbrev hs25 : List HSh := [.list 100 (.own 0) [1], .many 3 yI]
abbrev sh26 : Sh := (.cons (.own 0) (.cons (.ty (.slice (.slice yI))) (.cons (.ty yI) (.ty yI))))
abbrev sh27 : Sh := (.cons (.ty (.slice yI)) (.ty .err))
abbrev hs28 : List HSh := [hh1, .list 3 yI []]
abbrev sh29 : Sh := (.cons (.ptr 0 0) (.cons (.ty yI) (.cons (.own 1) (.cons (.ty yI) (.cons (.ty (.int .u64)) (.ty (.int .u64)))))))
abbrev sh2a : Sh := (.cons (.ty yI) (.ty (.slice yI)))
abbrev ss2b : SSh := ⟨[4], (.ty .bool), []⟩
abbrev sh2c : Sh := (.cons (.own 0) (.cons (.ty (.slice yI)) (.cons (.ty yI) (.ty yI))))
abbrev hs2d : List HSh := [.cells 213 0 (.own 1), .list 5 (.int .u8) []]
abbrev hs2e : List HSh := [.cells 213 0 (.own 2), .dead, .list 5 (.int .u8) []]
abbrev sh2f : Sh := (.cons (.ty (.slice (.int .u8))) (.ty (.slice (.int .u8))))
abbrev sh30 : Sh := (.cons (.ptr 0 0) (.cons (.ty yI) (.cons (.ty yI) (.cons (.ptr 2 0) (.cons (.ptr 3 0) (.cons (.ty yI) (.ty yI)))))))
abbrev hs31 : List HSh := [hh4, hh1, .cells 111 0 (.cons (.ty .bool) (.cons (.own 4) (.cons (.own 5) (.own 6)))), .cells 111 0 (.cons (.ty .bool) (.cons (.own 7) (.cons (.own 8) (.own 9)))), .list 74 q15 [], .list 100 (.slice yI) [], .list 3 yI [], .list 74 q15 [], .list 100 (.slice yI) [], .list 3 yI []]
abbrev hs32 : List HSh := [.cells 27 0 (.cons (.own 5) (.cons (.own 6) (.own 7))), .cells 32 0 (.cons (.own 8) (.cons (.own 9) (.own 10))), .cells 65 0 (.cons (.ptr 11 0) (.ty .err)), hh17, .cells 32 0 (.cons (.own 12) (.cons (.own 13) (.own 14))), .list 2 yI [], .list 78 q3x [], .list 86 q2h [], .list 74 q15 [], .list 83 q4c [], .list 80 ySum [], hh1, .list 74 q15 [], .list 83 q4c [], .list 80 ySum []]
abbrev sh33 : Sh := (.cons (.ptr 0 0) (.cons (.ptr 1 0) (.cons (.ptr 2 0) (.cons (.ptr 3 0) (.cons (.ty .bool) (.ptr 4 0))))))
abbrev sh34 : Sh := (.cons (.ptr 0 0) (.cons (.ptr 1 0) (.cons (.ptr 2 0) (.cons (.ty yI) (.ptr 3 0)))))
abbrev hs35 : List HSh := [.cells 144 0 sh19, .cells 78 0 sh10, .cells 78 0 sh11, .cells 106 0 (.cons (.own 6) (.cons (.ty yI) (.cons (.ty yI) (.cons (.ty yI) (.ty yI))))), .list 106 q2r [], .list 106 q2r [], .list 239 q6t []]
abbrev sh36 : Sh := (.cons (.ptr 0 0) (.cons (.ptr 1 0) (.cons (.ptr 2 0) (.ty yI))))
abbrev sh37 : Sh := (.cons (.ty .str) (.cons (.ty yI) (.cons (.ty yI) (.own 3))))
abbrev hs38 : List HSh := [.cells 78 0 (.cons (.ty .str) (.cons (.ty yI) (.cons (.ty yI) (.own 2)))), .cells 78 0 sh37, .list 106 q2r [], .list 106 q2r []]
abbrev hs39 : List HSh := [.cells 49 0 sh16, .cells 27 0 (.cons (.own 3) (.cons (.own 4) (.own 5))), .cells 27 0 (.cons (.own 6) (.cons (.own 7) (.own 8))), .list 2 yI [], .list 78 q3x [], .list 86 q2h [], .list 2 yI [], .list 78 q3x [], .list 86 q2h []]
abbrev hs3a : List HSh := [.cells 27 0 (.cons (.own 2) (.cons (.own 3) (.own 4))), .cells 27 0 (.cons (.own 5) (.cons (.own 6) (.own 7))), .list 2 yI [], .list 78 q3x [], .list 86 q2h [], .list 2 yI [], .list 78 q3x [], .list 86 q2h []]
abbrev hh3b : HSh := .cells 213 0 (.own 3)
abbrev sh3c : Sh := (.cons (.ptr 0 0) (.cons (.ptr 1 0) (.cons (.ty (.slice q3x)) (.cons (.ty yI) (.ty yI)))))
abbrev hs3d : List HSh := [hh17, .cells 213 0 (.own 2), .list 5 (.int .u8) []]
abbrev hs3e : List HSh := [.cells 78 0 sh37, .cells 78 0 sh10, .list 239 q6t [], .list 106 q2r [], .list 106 q2r []]
abbrev sh3f : Sh := (.cons (.ptr 0 0) (.cons (.ptr 1 0) (.cons (.ty yI) (.ty yI))))
abbrev sh40 : Sh := (.cons (.ptr 1 0) (.cons (.ty yI) (.cons (.own 2) (.cons (.ptr 3 0) (.cons (.ty (.slice q3x)) (.cons (.ty yI) (.cons (.ty yI) (.cons (.ty (.slice q2r)) (.cons (.ty yI) (.ty yI))))))))))
abbrev hs41 : List HSh := [.list 2 yI [], .cells 267 0 (.cons (.ty (.slice q3x)) (.cons (.own 4) (.own 5))), .list 270 q9k [], .cells 270 0 (.cons (.ty (.slice q6t)) (.cons (.own 6) (.cons (.ty yI) (.cons (.ty yI) (.cons (.ty yI) (.ty yI)))))), .list 268 (.slice q9k) [], .list 3 yI [], .list 3 yI []]
abbrev hs42 : List HSh := [.list 2 yI [], .cells 267 0 (.cons (.ty (.slice q3x)) (.cons (.own 3) (.own 4))), .list 270 q9k [], .list 268 (.slice q9k) [], .list 3 yI []]
abbrev hs43 : List HSh := [.list 2 yI [], .cells 267 0 (.cons (.ty (.slice q3x)) (.cons (.own 2) (.own 3))), .list 268 (.slice q9k) [], .list 3 yI []]
abbrev hs44 : List HSh := [.cells 196 0 (.cons (.ty yI) (.cons (.ty yI) (.cons (.ty yI) (.cons (.own 2) (.own 3))))), .cells 196 0 (.cons (.ty yI) (.cons (.ty yI) (.cons (.ty yI) (.cons (.own 4) (.own 5))))), .list 2 yI [], .list 3 yI [], .list 2 yI [], .list 3 yI []]
abbrev sh45 : Sh := (.cons (.ty (.ptr q9t)) (.cons (.own 1) (.cons (.ty (.slice yI)) (.cons (.own 2) (.cons (.own 3) (.cons (.ty yI) (.ty yI)))))))
abbrev hs46 : List HSh := [.cells 200 0 sh45, .list 2 yI [], .list 2 yI [], .list 196 (.pair yI (.pair yI (.pair yI (.pair (.own 0) (.own 1))))) [4, 5], .many 2 yI, .many 3 yI]
abbrev hs47 : List HSh := [.cells 200 0 (.cons (.ty (.ptr q9t)) (.cons (.own 1) (.cons (.ty (.slice yI)) (.cons (.own 2) (.cons (.own 6) (.cons (.ty yI) (.ty yI))))))), .list 2 yI [], .list 2 yI [], .dead, .many 2 yI, .many 3 yI, .list 196 (.pair yI (.pair yI (.pair yI (.pair (.own 0) (.own 1))))) [4, 5]]
abbrev sh48 : Sh := (.cons (.ptr 0 0) (.cons (.ptrI 3 0) (.agg (.cons (.ty yI) (.cons (.ty yI) (.cons (.ty yI) (.cons (.ty yI) (.cons (.ty yI) (.ty (.slice yI))))))))))
abbrev hs49 : List HSh := [.cells 200 0 sh45, .list 2 yI [], .list 2 yI [], .list 196 (.pair yI (.pair yI (.pair yI (.pair (.own 0) (.own 1))))) [4, 5], .many 2 yI, .many 3 yI, .cells 239 0 (.cons (.ty yI) (.cons (.ty yI) (.cons (.ty yI) (.cons (.ty yI) (.cons (.ty yI) (.ty (.slice yI))))))), .list 2 yI []]
abbrev hs4a : List HSh := [.cells 200 0 (.cons (.ty (.ptr q9t)) (.cons (.own 1) (.cons (.ty (.slice yI)) (.cons (.own 6) (.cons (.own 7) (.cons (.ty yI) (.ty yI))))))), .list 2 yI [], .dead, .dead, .many 2 yI, .many 3 yI, .list 2 yI [], .list 196 (.pair yI (.pair yI (.pair yI (.pair (.own 0) (.own 1))))) [4, 5]]
abbrev sh4b : Sh := (.cons (.ty .bool) (.cons (.ty (.slice q15)) (.ty (.slice (.slice yI)))))
abbrev ss4c : SSh := ⟨[6], (.ty .bool), []⟩
abbrev sh4d : Sh := (.cons (.ty (.slice yI)) (.cons (.ty (.slice q3x)) (.cons (.ty (.slice q2h)) (.cons (.ty yI) (.ty .bool)))))
abbrev sh4e : Sh := (.cons (.agg (.cons (.ty (.slice yI)) (.cons (.ty (.slice q3x)) (.ty (.slice q2h))))) (.cons (.agg (.cons (.ty (.slice q15)) (.cons (.ty (.slice q4c)) (.ty (.slice ySum))))) (.ty .bool)))
abbrev sh4f : Sh := (.cons (.ptr 0 0) (.cons (.ty (.slice ySum)) (.cons (.ty yI) (.ty yI))))
abbrev hh50 : HSh := .cells 32 0 (.cons (.ty (.slice q15)) (.cons (.ty (.slice q4c)) (.ty (.slice ySum))))
abbrev sh51 : Sh := (.cons (.ptr 0 0) (.cons (.own 2) (.cons (.ty yI) (.ty yI))))
abbrev sh52 : Sh := (.cons (.ty .bool) (.cons (.ty (.slice q15)) (.cons (.ty (.slice (.slice yI))) (.ty (.slice yI)))))
abbrev hs53 : List HSh := [hh3b, .dead, .cells 111 0 sh52, .list 5 (.int .u8) []]
abbrev hs54 : List HSh := [hh17, hh50, hh3b, .list 5 (.int .u8) []]
abbrev sh55 : Sh := (.cons (.ty (.slice yI)) (.ty (.slice yI)))
abbrev sh56 : Sh := (.cons (.ty (.slice yI)) (.cons (.ty (.slice yI)) (.cons (.ty yI) (.ty yI))))
noncomputable def q0q.sig : Sig := ⟨(.ty (.slice (.int .u8))), [], (.ty (.slice (.int .u8))), []⟩
noncomputable def q0q.f (K : Nat) (a0 : List Int) : Option (List Int) := bif (0 + a0.length).ble 4000000 then some a0 else none
noncomputable def q0q.F (K : Nat) : q0q.sig.In → Option (List Int) := fun x => q0q.f K x.1
noncomputable def q0q.cv : q0q.sig.In → (List Int) → q0q.sig.Ou := fun x r => (r, ())
theorem q0q.rets (K : Nat) : ∀ x y, q2u (q0q.F K) q0q.cv x = some y → Rets M 65 q0q.sig x y := fun x y h =>
  q6x (M := M) (g := q0q.sig) (T := (.int .u8)) (e := 5) (n := 8) (L := 1) (x := x.1) (args0 := x.1) (G := fun xs => bif (0 + xs.length).ble 4000000 then some (q0q.cv (xs, ()) xs) else none) (by kernel_rfl) Tryz.func65 (show Tryz.f65.body = some (.seq _ (.seq (.seq (.region _ #[⟨some 3, .move (.tmp 0), _, _, _, none⟩, ⟨some 4, .binOp .eql _ (.tmp 3) (.const (.slice none 0 0)) _, _, _, _, none⟩] false) _) _)) from rfl)
    (by kernel_rfl) rfl rfl (by kernel_rfl) (by decide) (by kernel_rfl) (by kernel_rfl) (by kernel_rfl) (by kernel_rfl) (by kernel_rfl) (by kernel_rfl) (Eq.trans (show (bif (0 + x.1.length).ble 4000000 then some (q0q.cv x x.1) else none) = (bif (0 + x.1.length).ble 4000000 then some x.1 else none).bind fun r => some (q0q.cv x r) by rw [q7a]; rfl) h) x.2
noncomputable def q0q.e (K : Nat) : En M := ⟨65, q0q.sig, _, q0q.F K, q0q.cv, by rfl, Tryz.f65, Tryz.func65, by kernel_rfl, rfl, q0q.rets K⟩
noncomputable def q0j.sig : Sig := ⟨(.own 0), [.list 5 (.int .u8) []], (.ty (.slice (.int .u8))), [.list 5 (.int .u8) []]⟩
noncomputable def q0j.f (K : Nat) (a0 : List Int) : Option (List Int) := bif (0 + a0.length).ble 4000000 then some a0 else none
noncomputable def q0j.F (K : Nat) : q0j.sig.In → Option (List Int) := fun x => q0j.f K x.2.1
noncomputable def q0j.cv : q0j.sig.In → (List Int) → q0j.sig.Ou := fun x r => (r, (x.2.1, ()))
theorem q0j.rets (K : Nat) : ∀ x y, q2u (q0j.F K) q0j.cv x = some y → Rets M 65 q0j.sig x y := fun x y h =>
  j0j (M := M) (g := q0j.sig) (T := (.int .u8)) (e := 5) (n := 8) (L := 1) (x := x.2.1) (args0 := x.1) (z := x.2) (G := fun xs => bif (0 + xs.length).ble 4000000 then some (q0j.cv ((), (xs, ())) xs) else none) (by kernel_rfl) Tryz.func65 (show Tryz.f65.body = some (.seq _ (.seq (.seq (.region _ #[⟨some 3, .move (.tmp 0), _, _, _, none⟩, ⟨some 4, .binOp .eql _ (.tmp 3) (.const (.slice none 0 0)) _, _, _, _, none⟩] false) _) _)) from rfl)
    (by kernel_rfl) rfl rfl rfl (by decide) (by decide) (by kernel_rfl) (by decide) (by kernel_rfl) (by kernel_rfl) (by kernel_rfl) (by kernel_rfl) (by kernel_rfl) (by kernel_rfl) (Eq.trans (show (bif (0 + x.2.1.length).ble 4000000 then some (q0j.cv x x.2.1) else none) = (bif (0 + x.2.1.length).ble 4000000 then some x.2.1 else none).bind fun r => some (q0j.cv x r) by rw [q7a]; rfl) h)
noncomputable def q0j.e (K : Nat) : En M := ⟨65, q0j.sig, _, q0j.F K, q0j.cv, by rfl, Tryz.f65, Tryz.func65, by kernel_rfl, rfl, q0j.rets K⟩
namespace q8k
noncomputable def f (K : Nat) (a0 : List Int) : Option (List Int × Int) := (q0q.f K a0).bind fun t => some (t, (0 : Int))
noncomputable def e (K : Nat) : En M := fnE (m := 0) { hmx := mxd, nt := 7, cs := [q0q.e K] } 17 Tryz.func17 ⟨sh0, [], (.ptr 0 0), [hh1]⟩ [] (fun x => f K x.1) (fun x r => ((), (r.1, r.2), ())) fun x => by
  rw [q0a, f]
  try simp only [el]
  kernel_rfl
end q8k
namespace q4o
noncomputable def f (K : Nat) : Option (List Int) := some [(65 : Int), (70 : Int), (1 : Int)]
noncomputable def e (K : Nat) : En M := fnE (m := 0) { hmx := mxd, nt := 2, cs := [] } 35 Tryz.func35 ⟨.unit, [], sh0, []⟩ [] (fun x => f K) (fun x r => (r, ())) fun x => by
  rw [q0a, f]
  try simp only [el]
  kernel_rfl
end q4o
namespace q1k
noncomputable def f (K : Nat) : Option (Unit) := some ()
noncomputable def e (K : Nat) : En M := fnE (m := 1) { hmx := mxd, nt := 9, cs := [] } 122 Tryz.func122 ⟨(.ptr 0 0), [hh1], (.ty yI), [hh1]⟩ [] (fun x => f K) (fun x r => (x.2.1.2, x.2)) fun x => by
  rw [q0a, f]
  try simp only [el]
  kernel_rfl
end q1k
namespace q1d
noncomputable def X (K : Nat) : Fx M 0 := { hmx := mxd, nt := 24, cs := [] }
noncomputable def l0.f (K : Nat) : Nat → Err → List Int → Int → Option (Err)
  | 0, _, _, _ => none
  | k + 1, a0, a1, a2 => bif decide (a2 ≥ (0 : Int)) then bif decide ((0 : Int) ≤ a2) && true then a1[a2.toNat]?.bind fun t => l0.f K k (Err.at t a0) a1 (IntKind.i64.wrap (a2 - (1 : Int))) else none else some a0
noncomputable def l0.b (K : Nat) : Lp M 0 := q24 (X K) 4 24 0 (q01 Tryz.f68 0) ⟨[0, 1, 5], (.cons (.ty .err) (.cons (.ty (.slice yI)) (.ty yI))), []⟩ ⟨[0], (.ty .err), []⟩ K [] (fun k x => l0.f K k x.1.1 x.1.2.1 x.1.2.2) (fun x r => (r, ())) fun k x => by
  rw [q0a, l0.f]
  try simp only [el]
  kernel_rfl
noncomputable def f (K : Nat) (a0 : Err) (a1 : List Int) : Option (Err) := bif bif false then !a0.isNil else a0.isNil then some Err.nil else l0.f K K a0 a1 (IntKind.i64.wrap ((↑a1.length : Int) - (1 : Int)))
noncomputable def e (K : Nat) : En M := fnE (X K) 68 Tryz.func68 ⟨(.cons (.ty .err) (.ty (.slice yI))), [], (.ty .err), []⟩ [l0.b K] (fun x => f K x.1.1 x.1.2) (fun x r => (r, ())) fun x => by
  rw [q0a, f]
  try simp only [el]
  kernel_rfl
end q1d
namespace q1f
noncomputable def f (K : Nat) (a0 : Int) (a2 : Int) : Option (Err) := (q1k.f K).bind fun t => q1d.f K (Err.no a0) [a2]
noncomputable def e (K : Nat) : En M := fnE (m := 1) { hmx := mxd, nt := 11, cs := [q1k.e K, q1d.e K] } 120 Tryz.func120 ⟨sh2, [hh1], (.ty .err), [hh1]⟩ [] (fun x => f K x.1.2 x.2.1.2) (fun x r => (r, x.2)) fun x => by
  rw [q0a, f]
  try simp only [el]
  kernel_rfl
end q1f
namespace q16
noncomputable def f (K : Nat) (a0 : List Int) (a1 : Int) : Option (Int) := some (IntKind.i64.wrap ((↑a0.length : Int) - a1))
noncomputable def e (K : Nat) : En M := fnE (m := 1) { hmx := mxd, nt := 15, cs := [] } 121 Tryz.func121 ⟨(.ptr 0 0), [hh1], (.ty yI), [hh1]⟩ [] (fun x => f K x.2.1.1 x.2.1.2) (fun x r => (r, x.2)) fun x => by
  rw [q0a, f]
  try simp only [el]
  kernel_rfl
end q16
namespace q1q
noncomputable def X (K : Nat) : Fx M 1 := { hmx := mxd, nt := 46, cs := [q1f.e K, q16.e K, q0q.e K], cp := [(1, [.bool], [6])] }
noncomputable def f (K : Nat) (a0 : Int) (a1 : List Int) (a2 : Int) : Option (List Int × Err × Int) := q1g (some (decide (a0 < (0 : Int)))) fun t => bif t then (q1f.f K (1 : Int) a2).bind fun t => some ([], t, a2) else (q16.f K a1 a2).bind fun t => bif decide (a0 > t) then (q1f.f K (2 : Int) a2).bind fun t => some ([], t, a2) else bif decide ((0 : Int) ≤ IntKind.i64.wrap (IntKind.i64.wrap (a2 + a0) - a0)) && decide (IntKind.i64.wrap (IntKind.i64.wrap (a2 + a0) - a0) ≤ IntKind.i64.wrap (a2 + a0)) && decide (IntKind.i64.wrap (a2 + a0) ≤ (↑a1.length : Int)) && true then (q0q.f K (List.drop (IntKind.i64.wrap (IntKind.i64.wrap (a2 + a0) - a0)).toNat (List.take (IntKind.i64.wrap (a2 + a0)).toNat a1))).bind fun t => some (t, Err.nil, IntKind.i64.wrap (a2 + a0)) else none
noncomputable def e (K : Nat) : En M := fnE (X K) 66 Tryz.func66 ⟨sh2, [hh1], sh3, [hh1]⟩ [] (fun x => f K x.1.2 x.2.1.1 x.2.1.2) (fun x r => ((r.1, r.2.1), (x.2.1.1, r.2.2), ())) fun x => by
  rw [q0a, f]
  try simp only [el]
  kernel_rfl
end q1q
namespace q02
noncomputable def f (K : Nat) (a0 : Err) (a1 : Err) : Option (Err) := bif bif false then !a1.isNil else a1.isNil then some a0 else some a1
noncomputable def e (K : Nat) : En M := fnE (m := 2) { hmx := mxd, nt := 13, cs := [] } 67 Tryz.func67 ⟨(.cons (.ptr 0 0) (.ty .err)), [hh4, hh1], .unit, [hh4, hh1]⟩ [] (fun x => f K x.1.2 x.2.1.2) (fun x r => ((), ((), r), x.2.2)) fun x => by
  rw [q0a, f]
  try simp only [el]
  kernel_rfl
end q02
namespace q2b
noncomputable def f (K : Nat) (a0 : List Int) (a1 : Int) : Option (Int × Err × Int) := bif a1 == (↑a0.length : Int) then (q1f.f K (2 : Int) a1).bind fun t => some ((0 : Int), t, a1) else bif decide ((0 : Int) ≤ IntKind.i64.wrap (IntKind.i64.wrap (a1 + (1 : Int)) - (1 : Int))) && true then a0[(IntKind.i64.wrap (IntKind.i64.wrap (a1 + (1 : Int)) - (1 : Int))).toNat]?.bind fun t => some (t, Err.nil, IntKind.i64.wrap (a1 + (1 : Int))) else none
noncomputable def e (K : Nat) : En M := fnE (m := 1) { hmx := mxd, nt := 40, cs := [q1f.e K] } 123 Tryz.func123 ⟨(.ptr 0 0), [hh1], (.cons (.ty (.int .u8)) (.ty .err)), [hh1]⟩ [] (fun x => f K x.2.1.1 x.2.1.2) (fun x r => ((r.1, r.2.1), (x.2.1.1, r.2.2), ())) fun x => by
  rw [q0a, f]
  try simp only [el]
  kernel_rfl
end q2b
namespace q2k
noncomputable def X (K : Nat) : Fx M 2 := { hmx := mxd, nt := 43, cs := [q1k.e K, q2b.e K, q02.e K, q1d.e K], cp := [(6, [.bool], [35])] }
noncomputable def f (K : Nat) (a0 : Int) (a1 : Err) (a2 : List Int) (a3 : Int) : Option (Int × Err × Int) := bif bif true then !a1.isNil else a1.isNil then some ((0 : Int), a1, a3) else (q1k.f K).bind fun t => (q2b.f K a2 a3).bind fun t => (q02.f K t.2.1 a1).bind fun t_1 => q1g (bif bif false then !t.2.1.isNil else t.2.1.isNil then some (decide (t.1 > a0)) else some false) fun t_2 => bif t_2 then (q1d.f K (Err.no (5 : Int)) [a3]).bind fun t_3 => (q02.f K t_3 t_1).bind fun t_4 => some (t.1, t_4, t.2.2) else some (t.1, t_1, t.2.2)
noncomputable def e (K : Nat) : En M := fnE (X K) 69 Tryz.func69 ⟨(.cons (.ptr 0 0) (.ty (.int .u8))), [hh4, hh1], (.ty (.int .u8)), [hh4, hh1]⟩ [] (fun x => f K x.1.2 x.2.1.2 x.2.2.1.1 x.2.2.1.2) (fun x r => (r.1, ((), r.2.1), (x.2.2.1.1, r.2.2), ())) fun x => by
  rw [q0a, f]
  try simp only [el]
  kernel_rfl
end q2k
namespace q18
noncomputable def X (K : Nat) : Fx M 1 := { hmx := mxd, nt := 69, cs := [], cp := [(8, [.bool], [42]), (12, [.bool], [54])] }
noncomputable def l0.f (K : Nat) : Nat → Int → Int → Int → List Int → Int → Option ((Unit) ⊕ (Int × Int × Int))
  | 0, _, _, _, _, _ => none
  | k + 1, a0, a1, a2, a3, a4 => bif decide (a2 < (10 : Int)) then bif IntKind.i64.wrap (a4 + a2) == (↑a3.length : Int) then some (Sum.inr ((0 : Int), (0 : Int), (2 : Int))) else bif decide ((0 : Int) ≤ IntKind.i64.wrap (a4 + a2)) && true then a3[(IntKind.i64.wrap (a4 + a2)).toNat]?.bind fun t => q1g (bif a2 == (9 : Int) then some (decide (t > (1 : Int))) else some false) fun t_1 => bif t_1 then some (Sum.inr ((0 : Int), (0 : Int), (3 : Int))) else bif decide (IntKind.i64.wrap ((7 : Int) * a2) < (0 : Int)) then none else bif IntKind.u8.wrap (↑(BitVec.ofInt (8 : Nat) t &&& BitVec.ofInt (8 : Nat) (128 : Int)).toNat : Int) != (0 : Int) then l0.f K k a0 (IntKind.u64.wrap (↑(BitVec.ofInt (64 : Nat) a1 ||| BitVec.ofInt (64 : Nat) (IntKind.u64.wrap (IntKind.u64.wrap (IntKind.u8.wrap (↑(BitVec.ofInt (8 : Nat) t &&& BitVec.ofInt (8 : Nat) (127 : Int)).toNat : Int)) * (2 : Int) ^ min (IntKind.i64.wrap ((7 : Int) * a2)).toNat (64 : Nat)))).toNat : Int)) (IntKind.i64.wrap (a2 + (1 : Int))) a3 a4 else q1g (bif t == (0 : Int) then some (decide (a2 > (0 : Int))) else some false) fun t_2 => bif t_2 then some (Sum.inr ((0 : Int), (0 : Int), (3 : Int))) else bif decide (IntKind.u64.wrap (↑(BitVec.ofInt (64 : Nat) a1 ||| BitVec.ofInt (64 : Nat) (IntKind.u64.wrap (IntKind.u64.wrap (IntKind.u8.wrap (↑(BitVec.ofInt (8 : Nat) t &&& BitVec.ofInt (8 : Nat) (127 : Int)).toNat : Int)) * (2 : Int) ^ min (IntKind.i64.wrap ((7 : Int) * a2)).toNat (64 : Nat)))).toNat : Int) > a0) then some (Sum.inr ((0 : Int), (0 : Int), (4 : Int))) else some (Sum.inr (IntKind.u64.wrap (↑(BitVec.ofInt (64 : Nat) a1 ||| BitVec.ofInt (64 : Nat) (IntKind.u64.wrap (IntKind.u64.wrap (IntKind.u8.wrap (↑(BitVec.ofInt (8 : Nat) t &&& BitVec.ofInt (8 : Nat) (127 : Int)).toNat : Int)) * (2 : Int) ^ min (IntKind.i64.wrap ((7 : Int) * a2)).toNat (64 : Nat)))).toNat : Int), IntKind.i64.wrap (a2 + (1 : Int)), (0 : Int))) else none else some (Sum.inl ())
noncomputable def l0.b (K : Nat) : Lp M 1 := q3s (X K) 3 69 0 (q01 Tryz.f124 0) ⟨[0, 1, 7, 10], (.cons (.ptr 0 0) (.cons (.ty (.int .u64)) (.cons (.ty (.int .u64)) (.ty yI)))), [hh1]⟩ ⟨[], .unit, [hh1]⟩ ⟨[4, 5, 6], (.cons (.ty (.int .u64)) (.cons (.ty yI) (.ty yI))), [hh1]⟩ K [] (fun k x => l0.f K k x.1.2.1 x.1.2.2.1 x.1.2.2.2 x.2.1.1 x.2.1.2) (fun x r => ((), x.2)) (fun x r => ((r.1, r.2.1, r.2.2), x.2)) fun k x => by
  rw [q0a, l0.f]
  try simp only [el]
  kernel_rfl
noncomputable def f (K : Nat) (a0 : Int) (a1 : List Int) (a2 : Int) : Option (Int × Int × Int) := (l0.f K K a0 (0 : Int) (0 : Int) a1 a2).bind fun t => Sum.elim (fun t => some ((0 : Int), (0 : Int), (3 : Int))) (fun t => some (t.1, t.2.1, t.2.2)) t
noncomputable def e (K : Nat) : En M := fnE (X K) 124 Tryz.func124 ⟨sh5, [hh1], (.cons (.ty (.int .u64)) (.cons (.ty yI) (.ty yI))), [hh1]⟩ [l0.b K] (fun x => f K x.1.2 x.2.1.1 x.2.1.2) (fun x r => ((r.1, r.2.1, r.2.2), x.2)) fun x => by
  rw [q0a, f]
  try simp only [el]
  kernel_rfl
end q18
namespace q1t
noncomputable def f (K : Nat) (a0 : List Int) (a1 : Int) : Option (Err × Int × List Int × Int) := (q18.f K (18446744073709551615 : Int) a0 a1).bind fun t => bif t.2.2 != (0 : Int) then (q1f.f K t.2.2 a1).bind fun t => none else (q16.f K a0 a1).bind fun t_1 => bif decide (t.1 > IntKind.u64.wrap (IntKind.i64.wrap (t_1 - t.2.1))) then (q1f.f K (2 : Int) a1).bind fun t => none else bif decide ((↑(0 : Nat) : Int) ≤ IntKind.i64.wrap (IntKind.i64.wrap (a1 + t.2.1) + IntKind.i64.wrap t.1)) && decide (IntKind.i64.wrap (IntKind.i64.wrap (a1 + t.2.1) + IntKind.i64.wrap t.1) ≤ (↑a0.length : Int)) && true then some (Err.nil, IntKind.i64.wrap (a1 + IntKind.i64.wrap (t.2.1 + IntKind.i64.wrap t.1)), List.drop (0 : Nat) (List.take (IntKind.i64.wrap (IntKind.i64.wrap (a1 + t.2.1) + IntKind.i64.wrap t.1)).toNat a0), IntKind.i64.wrap (a1 + t.2.1)) else none
noncomputable def e (K : Nat) : En M := fnE (m := 1) { hmx := mxd, nt := 68, cs := [q18.e K, q1f.e K, q16.e K] } 70 Tryz.func70 ⟨(.ptr 0 0), [hh1], (.cons (.ptr 1 0) (.ty .err)), [hh1, hh1]⟩ [] (fun x => f K x.2.1.1 x.2.1.2) (fun x r => (((), r.1), (x.2.1.1, r.2.1), (r.2.2.1, r.2.2.2), ())) fun x => by
  rw [q0a, f]
  try simp only [el]
  kernel_rfl
end q1t
namespace q1p
noncomputable def f (K : Nat) (a0 : List Int) (a1 : Int) : Option (Option LReader × Err × Int) := (q18.f K (18446744073709551615 : Int) a0 a1).bind fun t => bif t.2.2 != (0 : Int) then (q1f.f K t.2.2 a1).bind fun t => some (none, t, a1) else (q16.f K a0 a1).bind fun t_1 => bif decide (t.1 > IntKind.u64.wrap (IntKind.i64.wrap (t_1 - t.2.1))) then (q1f.f K (2 : Int) a1).bind fun t => some (none, t, a1) else bif decide ((↑(0 : Nat) : Int) ≤ IntKind.i64.wrap (IntKind.i64.wrap (a1 + t.2.1) + IntKind.i64.wrap t.1)) && decide (IntKind.i64.wrap (IntKind.i64.wrap (a1 + t.2.1) + IntKind.i64.wrap t.1) ≤ (↑a0.length : Int)) && true then some (some (List.drop (0 : Nat) (List.take (IntKind.i64.wrap (IntKind.i64.wrap (a1 + t.2.1) + IntKind.i64.wrap t.1)).toNat a0), IntKind.i64.wrap (a1 + t.2.1)), Err.nil, IntKind.i64.wrap (a1 + IntKind.i64.wrap (t.2.1 + IntKind.i64.wrap t.1))) else none
noncomputable def e (K : Nat) : En M := fnE (m := 1) { hmx := mxd, nt := 68, cs := [q18.e K, q1f.e K, q16.e K] } 70 Tryz.func70 ⟨(.ptr 0 0), [hh1], (.cons (.ty (.ptr yReader)) (.ty .err)), [hh1]⟩ [] (fun x => f K x.2.1.1 x.2.1.2) (fun x r => ((r.1, r.2.1), (x.2.1.1, r.2.2), ())) fun x => by
  rw [q0a, f]
  try simp only [el]
  kernel_rfl
end q1p
namespace q1w
noncomputable def f (K : Nat) (a0 : Int) (a1 : List Int) (a2 : Int) : Option (Int × Err × Int) := (q18.f K a0 a1 a2).bind fun t => bif t.2.2 != (0 : Int) then (q1f.f K t.2.2 a2).bind fun t => some ((0 : Int), t, a2) else some (t.1, Err.nil, IntKind.i64.wrap (a2 + t.2.1))
noncomputable def e (K : Nat) : En M := fnE (m := 1) { hmx := mxd, nt := 34, cs := [q18.e K, q1f.e K] } 206 Tryz.func206 ⟨sh5, [hh1], (.cons (.ty (.int .u64)) (.ty .err)), [hh1]⟩ [] (fun x => f K x.1.2 x.2.1.1 x.2.1.2) (fun x r => ((r.1, r.2.1), (x.2.1.1, r.2.2), ())) fun x => by
  rw [q0a, f]
  try simp only [el]
  kernel_rfl
end q1w
namespace q0i
noncomputable def f (K : Nat) (a0 : Int) (a1 : Err) (a2 : List Int) (a3 : Int) : Option (Int × Err × Int) := bif bif true then !a1.isNil else a1.isNil then some ((0 : Int), a1, a3) else (q1w.f K (IntKind.u64.wrap a0) a2 a3).bind fun t => some (IntKind.i64.wrap t.1, t.2.1, t.2.2)
noncomputable def e (K : Nat) : En M := fnE (m := 2) { hmx := mxd, nt := 28, cs := [q1w.e K] } 174 Tryz.func174 ⟨sh2, [hh6, hh1], (.ty yI), [hh6, hh1]⟩ [] (fun x => f K x.1.2 x.2.1.2 x.2.2.1.1 x.2.2.1.2) (fun x r => (r.1, ((), r.2.1), (x.2.2.1.1, r.2.2), ())) fun x => by
  rw [q0a, f]
  try simp only [el]
  kernel_rfl
end q0i
namespace q19
noncomputable def f (K : Nat) (a0 : List Int) (a1 : Int) : Option (Int × Err × Int) := (q1w.f K (18446744073709551615 : Int) a0 a1).bind fun t => some (IntKind.i64.wrap (↑(BitVec.ofInt (64 : Nat) (IntKind.i64.wrap (t.1.fdiv ((2 : Int) ^ (1 : Nat)))) ^^^ BitVec.ofInt (64 : Nat) (IntKind.i64.wrap ((0 : Int) - IntKind.i64.wrap (IntKind.u64.wrap (↑(BitVec.ofInt (64 : Nat) t.1 &&& BitVec.ofInt (64 : Nat) (1 : Int)).toNat : Int))))).toNat : Int), t.2.1, t.2.2)
noncomputable def e (K : Nat) : En M := fnE (m := 1) { hmx := mxd, nt := 20, cs := [q1w.e K] } 179 Tryz.func179 ⟨(.ptr 0 0), [hh1], (.cons (.ty yI) (.ty .err)), [hh1]⟩ [] (fun x => f K x.2.1.1 x.2.1.2) (fun x r => ((r.1, r.2.1), (x.2.1.1, r.2.2), ())) fun x => by
  rw [q0a, f]
  try simp only [el]
  kernel_rfl
end q19
namespace q1r
noncomputable def f (K : Nat) (a0 : Err) (a1 : List Int) (a2 : Int) : Option (Int × Err × Int) := bif bif true then !a0.isNil else a0.isNil then some ((0 : Int), a0, a2) else q19.f K a1 a2
noncomputable def e (K : Nat) : En M := fnE (m := 2) { hmx := mxd, nt := 23, cs := [q19.e K] } 175 Tryz.func175 ⟨(.ptr 0 0), [hh6, hh1], (.ty yI), [hh6, hh1]⟩ [] (fun x => f K x.2.1.2 x.2.2.1.1 x.2.2.1.2) (fun x r => (r.1, ((), r.2.1), (x.2.2.1.1, r.2.2), ())) fun x => by
  rw [q0a, f]
  try simp only [el]
  kernel_rfl
end q1r
namespace q3q
noncomputable def X (K : Nat) : Fx M 2 := { hmx := mxd, nt := 35, cs := [q1t.e K, q1p.e K, q16.e K, q1q.e K], alt := [70] }
noncomputable def f (K : Nat) (a0 : Err) (a1 : List Int) (a2 : Int) : Option (ByteArray × Err × Int) := bif bif true then !a0.isNil else a0.isNil then some (ByteArray.mk #[], a0, a2) else (q1t.f K a1 a2).elim ((q1p.f K a1 a2).bind fun t => bif bif true then !t.2.1.isNil else t.2.1.isNil then some (ByteArray.mk #[], t.2.1, t.2.2) else none) fun t => bif bif true then !t.1.isNil else t.1.isNil then some (ByteArray.mk #[], t.1, t.2.1) else (q16.f K t.2.2.1 t.2.2.2).bind fun t_1 => (q1q.f K t_1 t.2.2.1 t.2.2.2).bind fun t_2 => some (strOf t_2.1, a0, t.2.1)
noncomputable def e (K : Nat) : En M := fnE (X K) 177 Tryz.func177 ⟨(.ptr 0 0), [hh6, hh1], (.ty .str), [hh6, hh1]⟩ [] (fun x => f K x.2.1.2 x.2.2.1.1 x.2.2.1.2) (fun x r => (r.1, ((), r.2.1), (x.2.2.1.1, r.2.2), ())) fun x => by
  rw [q0a, f]
  try simp only [el]
  kernel_rfl
end q3q
namespace q2z
noncomputable def X (K : Nat) : Fx M 2 := { hmx := mxd, nt := 48, cs := [q1k.e K, q2b.e K, q1d.e K], cp := [(5, [.bool], [37])] }
noncomputable def f (K : Nat) (a0 : Int) (a1 : Err) (a2 : List Int) (a3 : Int) : Option (Int × Err × Int) := bif bif true then !a1.isNil else a1.isNil then some ((0 : Int), a1, a3) else (q1k.f K).bind fun t => (q2b.f K a2 a3).bind fun t => q1g (bif bif false then !t.2.1.isNil else t.2.1.isNil then bif decide (t.1 < (1 : Int)) then some true else some (decide (IntKind.i64.wrap t.1 > a0)) else some false) fun t_1 => bif t_1 then (q1d.f K (Err.no (5 : Int)) [a3]).bind fun t_2 => some (IntKind.i64.wrap t.1, t_2, t.2.2) else some (IntKind.i64.wrap t.1, t.2.1, t.2.2)
noncomputable def e (K : Nat) : En M := fnE (X K) 226 Tryz.func226 ⟨sh2, [hh6, hh1], (.ty yI), [hh6, hh1]⟩ [] (fun x => f K x.1.2 x.2.1.2 x.2.2.1.1 x.2.2.1.2) (fun x r => (r.1, ((), r.2.1), (x.2.2.1.1, r.2.2), ())) fun x => by
  rw [q0a, f]
  try simp only [el]
  kernel_rfl
end q2z
namespace q6w
noncomputable def f (K : Nat) (a0 : Int) : Option (Bool × Bool × Bool × Int × Bool) := bif a0 == (1 : Int) then some (true, false, false, (7 : Int), true) else bif a0 == (15 : Int) then some (true, false, false, (7 : Int), true) else bif a0 == (2 : Int) then some (true, true, false, (7 : Int), true) else bif a0 == (3 : Int) then some (true, true, false, (7 : Int), true) else bif a0 == (4 : Int) then some (true, true, true, (7 : Int), true) else bif a0 == (5 : Int) then some (true, true, true, (7 : Int), true) else bif a0 == (6 : Int) then some (true, true, true, (7 : Int), true) else bif a0 == (7 : Int) then some (true, true, true, (7 : Int), true) else bif a0 == (8 : Int) then some (true, true, true, (7 : Int), true) else bif a0 == (9 : Int) then some (true, true, true, (7 : Int), true) else bif a0 == (10 : Int) then some (true, true, true, (7 : Int), true) else bif a0 == (11 : Int) then some (true, true, true, (7 : Int), true) else bif a0 == (12 : Int) then some (true, true, true, (7 : Int), true) else bif a0 == (13 : Int) then some (true, false, true, (15 : Int), true) else bif a0 == (14 : Int) then some (false, true, true, (15 : Int), true) else bif a0 == (16 : Int) then some (false, true, false, (7 : Int), true) else bif a0 == (17 : Int) then some (true, false, true, (23 : Int), true) else some (false, false, false, (0 : Int), false)
noncomputable def e (K : Nat) : En M := fnE (m := 0) { hmx := mxd, nt := 49, cs := [] } 187 Tryz.func187 ⟨(.ty yI), [], (.cons (.agg (.cons (.ty .bool) (.cons (.ty .bool) (.cons (.ty .bool) (.ty yI))))) (.ty .bool)), []⟩ [] (fun x => f K x.1) (fun x r => (((r.1, r.2.1, r.2.2.1, r.2.2.2.1), r.2.2.2.2), ())) fun x => by
  rw [q0a, f]
  try simp only [el]
  kernel_rfl
end q6w
namespace q2s
noncomputable def X (K : Nat) : Fx M 2 := { hmx := mxd, nt := 54, cs := [q2z.e K, q6w.e K, q0i.e K, q1r.e K] }
noncomputable def l0.f (K : Nat) : Nat → Int → Int → Err → List Int → Int → List Int → Option (Err × Int × List Int)
  | 0, _, _, _, _, _, _ => none
  | k + 1, a0, a1, a2, a3, a4, a16 => bif decide (a1 < a0) then (q0i.f K (7 : Int) a2 a3 a4).bind fun t => bif (a16.length + [t.1].length).ble (4000000 : Nat) then l0.f K k a0 (IntKind.i64.wrap (a1 + (1 : Int))) t.2.1 a3 t.2.2 (a16 ++ [t.1]) else none else some (a2, a4, a16)
noncomputable def l0.b (K : Nat) : Lp M 2 := q24 (X K) 14 54 1 (q01 Tryz.f216 0) ⟨[0, 2, 3, 42, 43], sh8, [hh6, hh1, .cells 239 0 sh9, .cells 239 0 sha, .list 3 yI [], .list 3 yI []]⟩ ⟨[2, 3], (.cons (.ptr 2 0) (.ptr 3 0)), [hh6, hh1, .cells 239 0 sh9, .cells 239 0 sha, .list 3 yI [], .list 3 yI []]⟩ K [] (fun k x => l0.f K k x.1.2.2.2.1 x.1.2.2.2.2 x.2.1.2 x.2.2.1.1 x.2.2.1.2 x.2.2.2.2.2.2.1) (fun x r => (((), ()), ((), r.1), (x.2.2.1.1, r.2.1), x.2.2.2.1, x.2.2.2.2.1, x.2.2.2.2.2.1, r.2.2, ())) fun k x => by
  rw [q0a, l0.f]
  try simp only [el]
  kernel_rfl
noncomputable def f (K : Nat) (a0 : Err) (a1 : List Int) (a2 : Int) : Option (Int × Int × Int × Int × Int × List Int × Err × Int) := (q2z.f K (17 : Int) a0 a1 a2).bind fun t => (q6w.f K t.1).bind fun t_1 => bif t_1.1 then (q0i.f K (7 : Int) t.2.1 a1 t.2.2).bind fun t_2 => bif t_1.2.1 then (q0i.f K (7 : Int) t_2.2.1 a1 t_2.2.2).bind fun t_3 => bif t_1.2.2.1 then (q0i.f K t_1.2.2.2.1 t_3.2.1 a1 t_3.2.2).bind fun t_4 => bif t.1 == (1 : Int) then (q1r.f K t_4.2.1 a1 t_4.2.2).bind fun t_5 => some (t.1, t_2.1, t_3.1, t_4.1, t_5.1, [], t_5.2.1, t_5.2.2) else bif t.1 == (17 : Int) then (q0i.f K (4 : Int) t_4.2.1 a1 t_4.2.2).bind fun t_5 => (l0.f K K t_5.1 (0 : Int) t_5.2.1 a1 t_5.2.2 []).bind fun t_6 => some (t.1, t_2.1, t_3.1, t_4.1, (0 : Int), t_6.2.2, t_6.1, t_6.2.1) else some (t.1, t_2.1, t_3.1, t_4.1, (0 : Int), [], t_4.2.1, t_4.2.2) else bif t.1 == (1 : Int) then (q1r.f K t_3.2.1 a1 t_3.2.2).bind fun t_4 => some (t.1, t_2.1, t_3.1, (0 : Int), t_4.1, [], t_4.2.1, t_4.2.2) else bif t.1 == (17 : Int) then (q0i.f K (4 : Int) t_3.2.1 a1 t_3.2.2).bind fun t_4 => (l0.f K K t_4.1 (0 : Int) t_4.2.1 a1 t_4.2.2 []).bind fun t_5 => some (t.1, t_2.1, t_3.1, (0 : Int), (0 : Int), t_5.2.2, t_5.1, t_5.2.1) else some (t.1, t_2.1, t_3.1, (0 : Int), (0 : Int), [], t_3.2.1, t_3.2.2) else bif t_1.2.2.1 then (q0i.f K t_1.2.2.2.1 t_2.2.1 a1 t_2.2.2).bind fun t_3 => bif t.1 == (1 : Int) then (q1r.f K t_3.2.1 a1 t_3.2.2).bind fun t_4 => some (t.1, t_2.1, (0 : Int), t_3.1, t_4.1, [], t_4.2.1, t_4.2.2) else bif t.1 == (17 : Int) then (q0i.f K (4 : Int) t_3.2.1 a1 t_3.2.2).bind fun t_4 => (l0.f K K t_4.1 (0 : Int) t_4.2.1 a1 t_4.2.2 []).bind fun t_5 => some (t.1, t_2.1, (0 : Int), t_3.1, (0 : Int), t_5.2.2, t_5.1, t_5.2.1) else some (t.1, t_2.1, (0 : Int), t_3.1, (0 : Int), [], t_3.2.1, t_3.2.2) else bif t.1 == (1 : Int) then (q1r.f K t_2.2.1 a1 t_2.2.2).bind fun t_3 => some (t.1, t_2.1, (0 : Int), (0 : Int), t_3.1, [], t_3.2.1, t_3.2.2) else bif t.1 == (17 : Int) then (q0i.f K (4 : Int) t_2.2.1 a1 t_2.2.2).bind fun t_3 => (l0.f K K t_3.1 (0 : Int) t_3.2.1 a1 t_3.2.2 []).bind fun t_4 => some (t.1, t_2.1, (0 : Int), (0 : Int), (0 : Int), t_4.2.2, t_4.1, t_4.2.1) else some (t.1, t_2.1, (0 : Int), (0 : Int), (0 : Int), [], t_2.2.1, t_2.2.2) else bif t_1.2.1 then (q0i.f K (7 : Int) t.2.1 a1 t.2.2).bind fun t_2 => bif t_1.2.2.1 then (q0i.f K t_1.2.2.2.1 t_2.2.1 a1 t_2.2.2).bind fun t_3 => bif t.1 == (1 : Int) then (q1r.f K t_3.2.1 a1 t_3.2.2).bind fun t_4 => some (t.1, (0 : Int), t_2.1, t_3.1, t_4.1, [], t_4.2.1, t_4.2.2) else bif t.1 == (17 : Int) then (q0i.f K (4 : Int) t_3.2.1 a1 t_3.2.2).bind fun t_4 => (l0.f K K t_4.1 (0 : Int) t_4.2.1 a1 t_4.2.2 []).bind fun t_5 => some (t.1, (0 : Int), t_2.1, t_3.1, (0 : Int), t_5.2.2, t_5.1, t_5.2.1) else some (t.1, (0 : Int), t_2.1, t_3.1, (0 : Int), [], t_3.2.1, t_3.2.2) else bif t.1 == (1 : Int) then (q1r.f K t_2.2.1 a1 t_2.2.2).bind fun t_3 => some (t.1, (0 : Int), t_2.1, (0 : Int), t_3.1, [], t_3.2.1, t_3.2.2) else bif t.1 == (17 : Int) then (q0i.f K (4 : Int) t_2.2.1 a1 t_2.2.2).bind fun t_3 => (l0.f K K t_3.1 (0 : Int) t_3.2.1 a1 t_3.2.2 []).bind fun t_4 => some (t.1, (0 : Int), t_2.1, (0 : Int), (0 : Int), t_4.2.2, t_4.1, t_4.2.1) else some (t.1, (0 : Int), t_2.1, (0 : Int), (0 : Int), [], t_2.2.1, t_2.2.2) else bif t_1.2.2.1 then (q0i.f K t_1.2.2.2.1 t.2.1 a1 t.2.2).bind fun t_2 => bif t.1 == (1 : Int) then (q1r.f K t_2.2.1 a1 t_2.2.2).bind fun t_3 => some (t.1, (0 : Int), (0 : Int), t_2.1, t_3.1, [], t_3.2.1, t_3.2.2) else bif t.1 == (17 : Int) then (q0i.f K (4 : Int) t_2.2.1 a1 t_2.2.2).bind fun t_3 => (l0.f K K t_3.1 (0 : Int) t_3.2.1 a1 t_3.2.2 []).bind fun t_4 => some (t.1, (0 : Int), (0 : Int), t_2.1, (0 : Int), t_4.2.2, t_4.1, t_4.2.1) else some (t.1, (0 : Int), (0 : Int), t_2.1, (0 : Int), [], t_2.2.1, t_2.2.2) else bif t.1 == (1 : Int) then (q1r.f K t.2.1 a1 t.2.2).bind fun t_2 => some (t.1, (0 : Int), (0 : Int), (0 : Int), t_2.1, [], t_2.2.1, t_2.2.2) else bif t.1 == (17 : Int) then (q0i.f K (4 : Int) t.2.1 a1 t.2.2).bind fun t_2 => (l0.f K K t_2.1 (0 : Int) t_2.2.1 a1 t_2.2.2 []).bind fun t_3 => some (t.1, (0 : Int), (0 : Int), (0 : Int), (0 : Int), t_3.2.2, t_3.1, t_3.2.1) else some (t.1, (0 : Int), (0 : Int), (0 : Int), (0 : Int), [], t.2.1, t.2.2)
noncomputable def e (K : Nat) : En M := fnE (X K) 216 Tryz.func216 ⟨(.ptr 0 0), [hh6, hh1], sh7, [hh6, hh1]⟩ [l0.b K] (fun x => f K x.2.1.2 x.2.2.1.1 x.2.2.1.2) (fun x r => ((r.1, r.2.1, r.2.2.1, r.2.2.2.1, r.2.2.2.2.1, r.2.2.2.2.2.1), ((), r.2.2.2.2.2.2.1), (x.2.2.1.1, r.2.2.2.2.2.2.2), ())) fun x => by
  rw [q0a, f]
  try simp only [el]
  kernel_rfl
end q2s
namespace q5f
noncomputable def f (K : Nat) (a0 : Err) (a1 : List Int) (a2 : Int) : Option (Int × Int × Int × Int × Err × Int) := (q2z.f K (3 : Int) a0 a1 a2).bind fun t => bif t.1 != (1 : Int) then (q0i.f K (7 : Int) t.2.1 a1 t.2.2).bind fun t_1 => bif t.1 != (3 : Int) then (q0i.f K (11 : Int) t_1.2.1 a1 t_1.2.2).bind fun t_2 => bif t.1 == (2 : Int) then (q0i.f K (11 : Int) t_2.2.1 a1 t_2.2.2).bind fun t_3 => some (t.1, t_1.1, t_2.1, t_3.1, t_3.2.1, t_3.2.2) else some (t.1, t_1.1, t_2.1, (0 : Int), t_2.2.1, t_2.2.2) else bif t.1 == (2 : Int) then (q0i.f K (11 : Int) t_1.2.1 a1 t_1.2.2).bind fun t_2 => some (t.1, t_1.1, (0 : Int), t_2.1, t_2.2.1, t_2.2.2) else some (t.1, t_1.1, (0 : Int), (0 : Int), t_1.2.1, t_1.2.2) else bif t.1 != (3 : Int) then (q0i.f K (11 : Int) t.2.1 a1 t.2.2).bind fun t_1 => bif t.1 == (2 : Int) then (q0i.f K (11 : Int) t_1.2.1 a1 t_1.2.2).bind fun t_2 => some (t.1, (0 : Int), t_1.1, t_2.1, t_2.2.1, t_2.2.2) else some (t.1, (0 : Int), t_1.1, (0 : Int), t_1.2.1, t_1.2.2) else bif t.1 == (2 : Int) then (q0i.f K (11 : Int) t.2.1 a1 t.2.2).bind fun t_1 => some (t.1, (0 : Int), (0 : Int), t_1.1, t_1.2.1, t_1.2.2) else some (t.1, (0 : Int), (0 : Int), (0 : Int), t.2.1, t.2.2)
noncomputable def e (K : Nat) : En M := fnE (m := 2) { hmx := mxd, nt := 26, cs := [q2z.e K, q0i.e K] } 217 Tryz.func217 ⟨(.ptr 0 0), [hh6, hh1], shb, [hh6, hh1]⟩ [] (fun x => f K x.2.1.2 x.2.2.1.1 x.2.2.1.2) (fun x r => ((r.1, r.2.1, r.2.2.1, r.2.2.2.1), ((), r.2.2.2.2.1), (x.2.2.1.1, r.2.2.2.2.2), ())) fun x => by
  rw [q0a, f]
  try simp only [el]
  kernel_rfl
end q5f
namespace q2t
noncomputable def X (K : Nat) : Fx M 2 := { hmx := mxd, nt := 20, cs := [q0i.e K, q2s.e K, q5f.e K] }
noncomputable def l0.f (K : Nat) : Nat → Int → Int → Err → List Int → Int → List q3n → Option (Err × Int × List q3n)
  | 0, _, _, _, _, _, _ => none
  | k + 1, a0, a1, a2, a3, a4, a14 => bif decide (a1 < a0) then (q2s.f K a2 a3 a4).bind fun t => bif (a14.length + [(t.1, t.2.1, t.2.2.1, t.2.2.2.1, t.2.2.2.2.1, t.2.2.2.2.2.1)].length).ble (4000000 : Nat) then l0.f K k a0 (IntKind.i64.wrap (a1 + (1 : Int))) t.2.2.2.2.2.2.1 a3 t.2.2.2.2.2.2.2 (a14 ++ [(t.1, t.2.1, t.2.2.1, t.2.2.2.1, t.2.2.2.2.1, t.2.2.2.2.2.1)]) else none else some (a2, a4, a14)
noncomputable def l0.b (K : Nat) : Lp M 2 := q24 (X K) 3 20 0 (q01 Tryz.f207 0) ⟨[0, 2, 3, 5, 6], sh8, hsd⟩ ⟨[0, 2, 3], she, hsd⟩ K [] (fun k x => l0.f K k x.1.2.2.2.1 x.1.2.2.2.2 x.2.1.2 x.2.2.1.1 x.2.2.1.2 x.2.2.2.2.2.2.1) (fun x r => (((), (), ()), ((), r.1), (x.2.2.1.1, r.2.1), x.2.2.2.1, x.2.2.2.2.1, x.2.2.2.2.2.1, r.2.2, ())) fun k x => by
  rw [q0a, l0.f]
  try simp only [el]
  kernel_rfl
noncomputable def f (K : Nat) (a0 : Err) (a1 : List Int) (a2 : Int) : Option (List q3n × Int × Int × Int × Int × Err × Int) := (q0i.f K (12 : Int) a0 a1 a2).bind fun t => (l0.f K K t.1 (0 : Int) t.2.1 a1 t.2.2 []).bind fun t => (q5f.f K t.1 a1 t.2.1).bind fun t_1 => some (t.2.2, t_1.1, t_1.2.1, t_1.2.2.1, t_1.2.2.2.1, t_1.2.2.2.2.1, t_1.2.2.2.2.2)
noncomputable def e (K : Nat) : En M := fnE (X K) 207 Tryz.func207 ⟨(.ptr 0 0), [hh6, hh1], shc, [hh6, hh1]⟩ [l0.b K] (fun x => f K x.2.1.2 x.2.2.1.1 x.2.2.1.2) (fun x r => ((r.1, r.2.1, r.2.2.1, r.2.2.2.1, r.2.2.2.2.1), ((), r.2.2.2.2.2.1), (x.2.2.1.1, r.2.2.2.2.2.2), ())) fun x => by
  rw [q0a, f]
  try simp only [el]
  kernel_rfl
end q2t
namespace q2e
noncomputable def X (K : Nat) : Fx M 2 := { hmx := mxd, nt := 26, cs := [q3q.e K, q0i.e K, q2t.e K] }
noncomputable def l0.f (K : Nat) : Nat → Int → Int → Err → List Int → Int → List q1m → Option (Err × Int × List q1m)
  | 0, _, _, _, _, _, _ => none
  | k + 1, a0, a1, a2, a3, a4, a12 => bif decide (a1 < a0) then (q2t.f K a2 a3 a4).bind fun t => bif (a12.length + [(t.1, t.2.1, t.2.2.1, t.2.2.2.1, t.2.2.2.2.1)].length).ble (4000000 : Nat) then l0.f K k a0 (IntKind.i64.wrap (a1 + (1 : Int))) t.2.2.2.2.2.1 a3 t.2.2.2.2.2.2 (a12 ++ [(t.1, t.2.1, t.2.2.1, t.2.2.2.1, t.2.2.2.2.1)]) else none else some (a2, a4, a12)
noncomputable def l0.b (K : Nat) : Lp M 2 := q24 (X K) 5 26 0 (q01 Tryz.f176 0) ⟨[0, 2, 3, 14, 15], sh8, hs12⟩ ⟨[2, 3], (.cons (.ptr 2 0) (.ptr 3 0)), hs12⟩ K [] (fun k x => l0.f K k x.1.2.2.2.1 x.1.2.2.2.2 x.2.1.2 x.2.2.1.1 x.2.2.1.2 x.2.2.2.2.2.2.1) (fun x r => (((), ()), ((), r.1), (x.2.2.1.1, r.2.1), x.2.2.2.1, x.2.2.2.2.1, x.2.2.2.2.2.1, r.2.2, ())) fun k x => by
  rw [q0a, l0.f]
  try simp only [el]
  kernel_rfl
noncomputable def f (K : Nat) (a0 : Err) (a1 : List Int) (a2 : Int) : Option (ByteArray × Int × Int × List q1m × Err × Int) := (q3q.f K a0 a1 a2).bind fun t => (q0i.f K (4 : Int) t.2.1 a1 t.2.2).bind fun t_1 => (q0i.f K (8 : Int) t_1.2.1 a1 t_1.2.2).bind fun t_2 => (q0i.f K (12 : Int) t_2.2.1 a1 t_2.2.2).bind fun t_3 => (l0.f K K t_3.1 (0 : Int) t_3.2.1 a1 t_3.2.2 []).bind fun t_4 => some (t.1, t_1.1, t_2.1, t_4.2.2, t_4.1, t_4.2.1)
noncomputable def e (K : Nat) : En M := fnE (X K) 176 Tryz.func176 ⟨(.ptr 0 0), [hh6, hh1], shf, [hh6, hh1]⟩ [l0.b K] (fun x => f K x.2.1.2 x.2.2.1.1 x.2.2.1.2) (fun x r => ((r.1, r.2.1, r.2.2.1, r.2.2.2.1), ((), r.2.2.2.2.1), (x.2.2.1.1, r.2.2.2.2.2), ())) fun x => by
  rw [q0a, f]
  try simp only [el]
  kernel_rfl
end q2e
namespace q2w
noncomputable def f (K : Nat) (a0 : List Int) (a1 : Int) : Option (Err) := (q16.f K a0 a1).bind fun t => bif decide (t > (0 : Int)) then q1f.f K (3 : Int) a1 else some Err.nil
noncomputable def e (K : Nat) : En M := fnE (m := 1) { hmx := mxd, nt := 14, cs := [q16.e K, q1f.e K] } 75 Tryz.func75 ⟨(.ptr 0 0), [hh1], (.ty .err), [hh1]⟩ [] (fun x => f K x.2.1.1 x.2.1.2) (fun x r => (r, x.2)) fun x => by
  rw [q0a, f]
  try simp only [el]
  kernel_rfl
end q2w
namespace q08
noncomputable def X (K : Nat) : Fx M 2 := { hmx := mxd, nt := 88, cs := [q1k.e K, q1q.e K, q1d.e K, q0i.e K, q1r.e K, q2e.e K, q3q.e K, q2w.e K], cp := [(4, [.bool], [26])] }
noncomputable def l2.f (K : Nat) : Nat → Int → Int → Err → List Int → Int → List q0g → Option (Err × Int × List q0g)
  | 0, _, _, _, _, _, _ => none
  | k + 1, a0, a1, a2, a3, a4, a10 => bif decide (a1 < a0) then (q3q.f K a2 a3 a4).bind fun t => (q0i.f K (4 : Int) t.2.1 a3 t.2.2).bind fun t_1 => bif (a10.length + [(t.1, t_1.1)].length).ble (4000000 : Nat) then l2.f K k a0 (IntKind.i64.wrap (a1 + (1 : Int))) t_1.2.1 a3 t_1.2.2 (a10 ++ [(t.1, t_1.1)]) else none else some (a2, a4, a10)
noncomputable def l2.b (K : Nat) : Lp M 2 := q24 (X K) 16 88 4 (q01 Tryz.f125 2) ⟨[0, 2, 3, 60, 61], sh8, hs14⟩ ⟨[0, 2, 3], she, hs14⟩ K [] (fun k x => l2.f K k x.1.2.2.2.1 x.1.2.2.2.2 x.2.1.2 x.2.2.1.1 x.2.2.1.2 x.2.2.2.2.2.2.2.2.2.2.1) (fun x r => (((), (), ()), ((), r.1), (x.2.2.1.1, r.2.1), ((), (), ()), ((), (), ()), x.2.2.2.2.2.1, x.2.2.2.2.2.2.1, x.2.2.2.2.2.2.2.1, x.2.2.2.2.2.2.2.2.1, x.2.2.2.2.2.2.2.2.2.1, r.2.2, ())) fun k x => by
  rw [q0a, l2.f]
  try simp only [el]
  kernel_rfl
noncomputable def l1.f (K : Nat) : Nat → Int → Int → Err → List Int → Int → List q0x → Option (Err × Int × List q0x)
  | 0, _, _, _, _, _, _ => none
  | k + 1, a0, a1, a2, a3, a4, a9 => bif decide (a1 < a0) then (q2e.f K a2 a3 a4).bind fun t => bif (a9.length + [(t.1, t.2.1, t.2.2.1, t.2.2.2.1)].length).ble (4000000 : Nat) then l1.f K k a0 (IntKind.i64.wrap (a1 + (1 : Int))) t.2.2.2.2.1 a3 t.2.2.2.2.2 (a9 ++ [(t.1, t.2.1, t.2.2.1, t.2.2.2.1)]) else none else some (a2, a4, a9)
noncomputable def l1.b (K : Nat) : Lp M 2 := q24 (X K) 12 88 2 (q01 Tryz.f125 1) ⟨[0, 2, 3, 48, 49], sh8, hs14⟩ ⟨[0, 2, 3], she, hs14⟩ K [] (fun k x => l1.f K k x.1.2.2.2.1 x.1.2.2.2.2 x.2.1.2 x.2.2.1.1 x.2.2.1.2 x.2.2.2.2.2.2.2.2.2.1) (fun x r => (((), (), ()), ((), r.1), (x.2.2.1.1, r.2.1), ((), (), ()), ((), (), ()), x.2.2.2.2.2.1, x.2.2.2.2.2.2.1, x.2.2.2.2.2.2.2.1, x.2.2.2.2.2.2.2.2.1, r.2.2, x.2.2.2.2.2.2.2.2.2.2)) fun k x => by
  rw [q0a, l1.f]
  try simp only [el]
  kernel_rfl
noncomputable def l0.f (K : Nat) : Nat → Int → Int → Err → List Int → Int → List Int → Option (Err × Int × List Int)
  | 0, _, _, _, _, _, _ => none
  | k + 1, a0, a1, a2, a3, a4, a8 => bif decide (a1 < a0) then (q1r.f K a2 a3 a4).bind fun t => bif (a8.length + [t.1].length).ble (4000000 : Nat) then l0.f K k a0 (IntKind.i64.wrap (a1 + (1 : Int))) t.2.1 a3 t.2.2 (a8 ++ [t.1]) else none else some (a2, a4, a8)
noncomputable def l0.b (K : Nat) : Lp M 2 := q24 (X K) 8 88 0 (q01 Tryz.f125 0) ⟨[0, 2, 3, 36, 37], sh8, hs14⟩ ⟨[0, 2, 3], she, hs14⟩ K [] (fun k x => l0.f K k x.1.2.2.2.1 x.1.2.2.2.2 x.2.1.2 x.2.2.1.1 x.2.2.1.2 x.2.2.2.2.2.2.2.2.1) (fun x r => (((), (), ()), ((), r.1), (x.2.2.1.1, r.2.1), ((), (), ()), ((), (), ()), x.2.2.2.2.2.1, x.2.2.2.2.2.2.1, x.2.2.2.2.2.2.2.1, r.2.2, x.2.2.2.2.2.2.2.2.2)) fun k x => by
  rw [q0a, l0.f]
  try simp only [el]
  kernel_rfl
noncomputable def f (K : Nat) (a1 : List Int) (a2 : Int) : Option (List Int × List q0x × List q0g × Err × Int) := (q1k.f K).bind fun t => (q1q.f K (3 : Int) a1 a2).bind fun t => q1g (bif bif false then !t.2.1.isNil else t.2.1.isNil then some !(strOf t.1).toList == (ByteArray.mk #[(65 : UInt8), (86 : UInt8), (1 : UInt8)]).toList else some false) fun t_1 => bif t_1 then (q1d.f K (Err.no (3 : Int)) [a2]).bind fun t_2 => (q0i.f K (16 : Int) t_2 a1 t.2.2).bind fun t => (l0.f K K t.1 (0 : Int) t.2.1 a1 t.2.2 []).bind fun t => (q0i.f K (24 : Int) t.1 a1 t.2.1).bind fun t_3 => (l1.f K K t_3.1 (0 : Int) t_3.2.1 a1 t_3.2.2 []).bind fun t_4 => (q0i.f K (24 : Int) t_4.1 a1 t_4.2.1).bind fun t_5 => (l2.f K K t_5.1 (0 : Int) t_5.2.1 a1 t_5.2.2 []).bind fun t_6 => bif bif false then !t_6.1.isNil else t_6.1.isNil then (q2w.f K a1 t_6.2.1).bind fun t_7 => some (t.2.2, t_4.2.2, t_6.2.2, t_7, t_6.2.1) else some (t.2.2, t_4.2.2, t_6.2.2, t_6.1, t_6.2.1) else (q0i.f K (16 : Int) t.2.1 a1 t.2.2).bind fun t => (l0.f K K t.1 (0 : Int) t.2.1 a1 t.2.2 []).bind fun t => (q0i.f K (24 : Int) t.1 a1 t.2.1).bind fun t_2 => (l1.f K K t_2.1 (0 : Int) t_2.2.1 a1 t_2.2.2 []).bind fun t_3 => (q0i.f K (24 : Int) t_3.1 a1 t_3.2.1).bind fun t_4 => (l2.f K K t_4.1 (0 : Int) t_4.2.1 a1 t_4.2.2 []).bind fun t_5 => bif bif false then !t_5.1.isNil else t_5.1.isNil then (q2w.f K a1 t_5.2.1).bind fun t_6 => some (t.2.2, t_3.2.2, t_5.2.2, t_6, t_5.2.1) else some (t.2.2, t_3.2.2, t_5.2.2, t_5.1, t_5.2.1)
noncomputable def e (K : Nat) : En M := fnE (X K) 125 Tryz.func125 ⟨(.ptr 0 0), [hh6, hh1], sh13, [hh6, hh1]⟩ [l0.b K, l1.b K, l2.b K] (fun x => f K x.2.2.1.1 x.2.2.1.2) (fun x r => ((r.1, r.2.1, r.2.2.1), ((), r.2.2.2.1), (x.2.2.1.1, r.2.2.2.2), ())) fun x => by
  rw [q0a, f]
  try simp only [el]
  kernel_rfl
end q08
namespace q3j
noncomputable def X (K : Nat) : Fx M 0 := { hmx := mxd, nt := 45, cs := [], cp := [(4, [.bool, .bool], [5, 6]), (5, [.bool], [36]), (8, [.bool], [2])] }
noncomputable def l0.f (K : Nat) : Nat → List Int → Int → Int → Option ((Unit) ⊕ (Bool))
  | 0, _, _, _ => none
  | k + 1, a1, a2, a3 => bif decide (a3 < a2) then bif decide ((0 : Int) ≤ a3) && true then a1[a3.toNat]?.bind fun t => q1g (bif decide (t ≥ (97 : Int)) then bif decide (t ≥ (48 : Int)) then some (decide (t ≤ (122 : Int)), decide (t ≤ (57 : Int))) else some (decide (t ≤ (122 : Int)), false) else bif decide (t ≥ (48 : Int)) then some (false, decide (t ≤ (57 : Int))) else some (false, false)) fun t => q1g (bif !t.1 then bif !t.2 then some true else some (a3 == (0 : Int)) else some false) fun t => bif t then some (Sum.inr false) else l0.f K k a1 a2 (IntKind.i64.wrap (a3 + (1 : Int))) else none else some (Sum.inl ())
noncomputable def l0.b (K : Nat) : Lp M 0 := q3s (X K) 2 45 0 (q01 Tryz.f184 0) ⟨[0, 8, 9, 10], (.cons (.ty .str) (.cons (.ty (.slice (.int .u8))) (.cons (.ty yI) (.ty yI)))), []⟩ ⟨[0], (.ty .str), []⟩ ⟨[2], (.ty .bool), []⟩ K [] (fun k x => l0.f K k x.1.2.1 x.1.2.2.1 x.1.2.2.2) (fun x r => (x.1.1, ())) (fun x r => (r, ())) fun k x => by
  rw [q0a, l0.f]
  try simp only [el]
  kernel_rfl
noncomputable def f (K : Nat) (a0 : ByteArray) : Option (Bool) := bif a0.size.ble (4000000 : Nat) then (l0.f K K (bytesOf a0) (↑(bytesOf a0).length : Int) (0 : Int)).bind fun t => Sum.elim (fun t => q1g (bif !a0.toList == (ByteArray.mk #[]).toList then some (decide ((↑a0.size : Int) ≤ (12 : Int))) else some false) fun t => some t) (fun t => some t) t else none
noncomputable def e (K : Nat) : En M := fnE (X K) 184 Tryz.func184 ⟨(.ty .str), [], (.ty .bool), []⟩ [l0.b K] (fun x => f K x.1) (fun x r => (r, ())) fun x => by
  rw [q0a, f]
  try simp only [el]
  kernel_rfl
end q3j
namespace q10
noncomputable def X (K : Nat) : Fx M 0 := { hmx := mxd, nt := 12, cs := [], cp := [(1, [.bool], [4])] }
noncomputable def f (K : Nat) (a0 : Int) (a1 : Int) : Option (Bool) := q1g (bif decide (a0 ≥ (0 : Int)) then some (decide (a0 < a1)) else some false) fun t => some t
noncomputable def e (K : Nat) : En M := fnE (X K) 186 Tryz.func186 ⟨(.cons (.ty yI) (.ty yI)), [], (.ty .bool), []⟩ [] (fun x => f K x.1.1 x.1.2) (fun x r => (r, ())) fun x => by
  rw [q0a, f]
  try simp only [el]
  kernel_rfl
end q10
namespace z38
noncomputable def f (K : Nat) (a1 : List q0x) (a2 : List q0g) (a3 : Int) : Option (ByteArray) := (q10.f K a3 (↑a1.length : Int)).bind fun t => bif t then bif decide ((0 : Int) ≤ a3) && true then a1[a3.toNat]?.bind fun t => some t.1 else none else (q10.f K (IntKind.i64.wrap (a3 - (↑a1.length : Int))) (↑a2.length : Int)).bind fun t => bif t then bif decide ((0 : Int) ≤ IntKind.i64.wrap (a3 - (↑a1.length : Int))) && true then a2[(IntKind.i64.wrap (a3 - (↑a1.length : Int))).toNat]?.bind fun t => some t.1 else none else some (ByteArray.mk #[])
noncomputable def e (K : Nat) : En M := fnE (m := 0) { hmx := mxd, nt := 35, cs := [q10.e K] } 212 Tryz.func212 ⟨sh15, [], (.ty .str), []⟩ [] (fun x => f K x.1.1.2.1 x.1.1.2.2 x.1.2) (fun x r => (r, ())) fun x => by
  rw [q0a, f]
  try simp only [el]
  kernel_rfl
end z38
namespace q7m
noncomputable def X (K : Nat) : Fx M 0 := { hmx := mxd, nt := 23, cs := [z38.e K] }
noncomputable def l0.f (K : Nat) : Nat → ByteArray → Int → Int → List q0x → List q0g → Option ((Unit) ⊕ (Int))
  | 0, _, _, _, _, _ => none
  | k + 1, a0, a1, a2, a4, a5 => bif decide (a2 < a1) then (z38.f K a4 a5 a2).bind fun t => bif t.toList == a0.toList then some (Sum.inr a2) else l0.f K k a0 a1 (IntKind.i64.wrap (a2 + (1 : Int))) a4 a5 else some (Sum.inl ())
noncomputable def l0.b (K : Nat) : Lp M 0 := q3s (X K) 2 23 0 (q01 Tryz.f185 0) ⟨[1, 2, 12, 13], (.cons (.ty .str) (.cons (.ptr 0 0) (.cons (.ty yI) (.ty yI)))), [hh17]⟩ ss18 ⟨[4], (.ty yI), []⟩ K [] (fun k x => l0.f K k x.1.1 x.1.2.2.1 x.1.2.2.2 x.2.1.2.1 x.2.1.2.2) (fun x r => ((), ())) (fun x r => (r, ())) fun k x => by
  rw [q0a, l0.f]
  try simp only [el]
  kernel_rfl
noncomputable def f (K : Nat) (a1 : List q0x) (a2 : List q0g) (a3 : ByteArray) : Option (Int) := (l0.f K K a3 (IntKind.i64.wrap ((↑a1.length : Int) + (↑a2.length : Int))) (0 : Int) a1 a2).bind fun t => Sum.elim (fun t => some (-1 : Int)) (fun t => some t) t
noncomputable def e (K : Nat) : En M := fnE (X K) 185 Tryz.func185 ⟨(.cons (.agg (.cons (.ty (.slice yI)) (.cons (.ty (.slice q3x)) (.ty (.slice q2h))))) (.ty .str)), [], (.ty yI), []⟩ [l0.b K] (fun x => f K x.1.1.2.1 x.1.1.2.2 x.1.2) (fun x r => (r, ())) fun x => by
  rw [q0a, f]
  try simp only [el]
  kernel_rfl
end q7m
namespace q38
noncomputable def X (K : Nat) : Fx M 0 := { hmx := mxd, nt := 51, cs := [q3j.e K, q7m.e K, q10.e K], cp := [(8, [.bool], [28]), (10, [.bool], [40])] }
noncomputable def f (K : Nat) (a1 : List q0x) (a2 : List q0g) (a3 : Int) : Option (Int) := bif decide ((0 : Int) ≤ a3) && true then a1[a3.toNat]?.bind fun t => (q3j.f K t.1).bind fun t_1 => bif !t_1 then some (6 : Int) else (q7m.f K a1 a2 t.1).bind fun t_2 => bif decide (t_2 < a3) then some (7 : Int) else (q10.f K t.2.1 (5 : Int)).bind fun t_3 => bif !t_3 then some (10 : Int) else q1g (bif decide (t.2.2.1 < if (1 : Int) > t.2.1 then (1 : Int) else t.2.1) then some true else some (decide (t.2.2.1 > (8 : Int)))) fun t_4 => bif t_4 then some (9 : Int) else q1g (bif decide ((↑(List.length t.2.2.2) : Int) < (1 : Int)) then some true else some (decide ((↑(List.length t.2.2.2) : Int) > (12 : Int)))) fun t => bif t then some (11 : Int) else some (0 : Int) else none
noncomputable def e (K : Nat) : En M := fnE (X K) 182 Tryz.func182 ⟨sh15, [], (.ty yI), []⟩ [] (fun x => f K x.1.1.2.1 x.1.1.2.2 x.1.2) (fun x r => (r, ())) fun x => by
  rw [q0a, f]
  try simp only [el]
  kernel_rfl
end q38
namespace q2l
noncomputable def f (K : Nat) (a0 : Int) : Option (Bool × Bool × Bool × Bool × Bool) := bif a0 == (4 : Int) then some (true, true, true, false, true) else bif a0 == (5 : Int) then some (true, true, true, false, true) else bif a0 == (6 : Int) then some (true, true, true, false, true) else bif a0 == (7 : Int) then some (true, true, true, false, true) else bif a0 == (8 : Int) then some (true, true, true, false, true) else bif a0 == (9 : Int) then some (true, true, true, false, true) else bif a0 == (10 : Int) then some (true, true, true, false, true) else bif a0 == (11 : Int) then some (true, true, true, false, true) else bif a0 == (12 : Int) then some (true, true, true, false, true) else bif a0 == (2 : Int) then some (true, true, false, false, true) else bif a0 == (3 : Int) then some (true, true, false, false, true) else bif a0 == (1 : Int) then some (true, false, false, false, true) else bif a0 == (15 : Int) then some (true, false, false, false, true) else bif a0 == (13 : Int) then some (true, false, false, true, true) else bif a0 == (17 : Int) then some (true, false, false, true, true) else bif a0 == (14 : Int) then some (false, true, false, true, true) else bif a0 == (16 : Int) then some (false, true, false, false, true) else some (false, false, false, false, false)
noncomputable def e (K : Nat) : En M := fnE (m := 0) { hmx := mxd, nt := 39, cs := [] } 190 Tryz.func190 ⟨sh7, [], (.cons (.agg (.cons (.ty .bool) (.cons (.ty .bool) (.cons (.ty .bool) (.ty .bool))))) (.ty .bool)), []⟩ [] (fun x => f K x.1.1) (fun x r => (((r.1, r.2.1, r.2.2.1, r.2.2.2.1), r.2.2.2.2), ())) fun x => by
  rw [q0a, f]
  try simp only [el]
  kernel_rfl
end q2l
namespace q55
noncomputable def X (K : Nat) : Fx M 0 := { hmx := mxd, nt := 59, cs := [], cp := [(1, [.bool], [4])] }
noncomputable def f (K : Nat) (a0 : Int) (a1 : Int) (a2 : Int) (a3 : Int) (a4 : Int) (a5 : List Int) (a6 : Bool) (a7 : Bool) (a8 : Bool) (a9 : Bool) : Option (Bool) := q1g (bif !a6 then bif a1 != (0 : Int) then some true else bif !a7 then bif a2 != (0 : Int) then some true else bif !a8 then bif !a9 then bif a3 != (0 : Int) then some true else bif a0 != (1 : Int) then bif a4 != (0 : Int) then some true else bif a0 != (17 : Int) then some (decide ((↑a5.length : Int) > (0 : Int))) else some false else bif a0 != (17 : Int) then some (decide ((↑a5.length : Int) > (0 : Int))) else some false else bif a0 != (1 : Int) then bif a4 != (0 : Int) then some true else bif a0 != (17 : Int) then some (decide ((↑a5.length : Int) > (0 : Int))) else some false else bif a0 != (17 : Int) then some (decide ((↑a5.length : Int) > (0 : Int))) else some false else bif a0 != (1 : Int) then bif a4 != (0 : Int) then some true else bif a0 != (17 : Int) then some (decide ((↑a5.length : Int) > (0 : Int))) else some false else bif a0 != (17 : Int) then some (decide ((↑a5.length : Int) > (0 : Int))) else some false else bif !a8 then bif !a9 then bif a3 != (0 : Int) then some true else bif a0 != (1 : Int) then bif a4 != (0 : Int) then some true else bif a0 != (17 : Int) then some (decide ((↑a5.length : Int) > (0 : Int))) else some false else bif a0 != (17 : Int) then some (decide ((↑a5.length : Int) > (0 : Int))) else some false else bif a0 != (1 : Int) then bif a4 != (0 : Int) then some true else bif a0 != (17 : Int) then some (decide ((↑a5.length : Int) > (0 : Int))) else some false else bif a0 != (17 : Int) then some (decide ((↑a5.length : Int) > (0 : Int))) else some false else bif a0 != (1 : Int) then bif a4 != (0 : Int) then some true else bif a0 != (17 : Int) then some (decide ((↑a5.length : Int) > (0 : Int))) else some false else bif a0 != (17 : Int) then some (decide ((↑a5.length : Int) > (0 : Int))) else some false else bif !a7 then bif a2 != (0 : Int) then some true else bif !a8 then bif !a9 then bif a3 != (0 : Int) then some true else bif a0 != (1 : Int) then bif a4 != (0 : Int) then some true else bif a0 != (17 : Int) then some (decide ((↑a5.length : Int) > (0 : Int))) else some false else bif a0 != (17 : Int) then some (decide ((↑a5.length : Int) > (0 : Int))) else some false else bif a0 != (1 : Int) then bif a4 != (0 : Int) then some true else bif a0 != (17 : Int) then some (decide ((↑a5.length : Int) > (0 : Int))) else some false else bif a0 != (17 : Int) then some (decide ((↑a5.length : Int) > (0 : Int))) else some false else bif a0 != (1 : Int) then bif a4 != (0 : Int) then some true else bif a0 != (17 : Int) then some (decide ((↑a5.length : Int) > (0 : Int))) else some false else bif a0 != (17 : Int) then some (decide ((↑a5.length : Int) > (0 : Int))) else some false else bif !a8 then bif !a9 then bif a3 != (0 : Int) then some true else bif a0 != (1 : Int) then bif a4 != (0 : Int) then some true else bif a0 != (17 : Int) then some (decide ((↑a5.length : Int) > (0 : Int))) else some false else bif a0 != (17 : Int) then some (decide ((↑a5.length : Int) > (0 : Int))) else some false else bif a0 != (1 : Int) then bif a4 != (0 : Int) then some true else bif a0 != (17 : Int) then some (decide ((↑a5.length : Int) > (0 : Int))) else some false else bif a0 != (17 : Int) then some (decide ((↑a5.length : Int) > (0 : Int))) else some false else bif a0 != (1 : Int) then bif a4 != (0 : Int) then some true else bif a0 != (17 : Int) then some (decide ((↑a5.length : Int) > (0 : Int))) else some false else bif a0 != (17 : Int) then some (decide ((↑a5.length : Int) > (0 : Int))) else some false) fun t => some t
noncomputable def e (K : Nat) : En M := fnE (X K) 221 Tryz.func221 ⟨(.cons (.agg (.cons (.ty yI) (.cons (.ty yI) (.cons (.ty yI) (.cons (.ty yI) (.cons (.ty yI) (.ty (.slice yI)))))))) (.agg (.cons (.ty .bool) (.cons (.ty .bool) (.cons (.ty .bool) (.ty .bool)))))), [], (.ty .bool), []⟩ [] (fun (x : (((Int × (Int × (Int × (Int × (Int × (List Int)))))) × (Bool × (Bool × (Bool × Bool)))) × Unit)) => f K x.1.1.1 x.1.1.2.1 x.1.1.2.2.1 x.1.1.2.2.2.1 x.1.1.2.2.2.2.1 x.1.1.2.2.2.2.2 x.1.2.1 x.1.2.2.1 x.1.2.2.2.1 x.1.2.2.2.2) (fun x r => (r, ())) fun (x : (((Int × (Int × (Int × (Int × (Int × (List Int)))))) × (Bool × (Bool × (Bool × Bool)))) × Unit)) => by
  refine Eq.trans ?_ q0a.symm
  rw [f]
  try simp only [el]
  kernel_rfl
end q55
namespace q9r
noncomputable def X (K : Nat) : Fx M 0 := { hmx := mxd, nt := 39, cs := [q10.e K], cp := [(4, [.bool], [23])] }
noncomputable def f (K : Nat) (a1 : List q0x) (a2 : List q0g) (a3 : Int) : Option (Int) := (q10.f K a3 (↑a1.length : Int)).bind fun t => bif t then bif decide ((0 : Int) ≤ a3) && true then a1[a3.toNat]?.bind fun t => some t.2.1 else none else q1g (bif decide (a3 ≥ (0 : Int)) then (q10.f K (IntKind.i64.wrap (a3 - (↑a1.length : Int))) (↑a2.length : Int)).bind fun t => some t else some false) fun t => bif t then bif decide ((0 : Int) ≤ IntKind.i64.wrap (a3 - (↑a1.length : Int))) && true then a2[(IntKind.i64.wrap (a3 - (↑a1.length : Int))).toNat]?.bind fun t => some t.2 else none else some (-1 : Int)
noncomputable def e (K : Nat) : En M := fnE (X K) 222 Tryz.func222 ⟨sh15, [], (.ty yI), []⟩ [] (fun x => f K x.1.1.2.1 x.1.1.2.2 x.1.2) (fun x r => (r, ())) fun x => by
  rw [q0a, f]
  try simp only [el]
  kernel_rfl
end q9r
namespace q4g
noncomputable def f (K : Nat) (a0 : Int) (a3 : Int) : Option (Bool) := (q10.f K a0 a3).bind fun t => some !t
noncomputable def e (K : Nat) : En M := fnE (m := 1) { hmx := mxd, nt := 9, cs := [q10.e K] } 224 Tryz.func224 ⟨(.cons (.ty yI) (.ptr 0 0)), [hh1a], (.ty .bool), [hh1a]⟩ [] (fun x => f K x.1.1 x.2.1.2.2.1) (fun x r => (r, x.2)) fun x => by
  rw [q0a, f]
  try simp only [el]
  kernel_rfl
end q4g
namespace q09
noncomputable def X (K : Nat) : Fx M 1 := { hmx := mxd, nt := 19, cs := [q4g.e K] }
noncomputable def l0.f (K : Nat) : Nat → List Int → Int → Int → Int → Option ((Unit) ⊕ (Int))
  | 0, _, _, _, _ => none
  | k + 1, a0, a1, a2, a5 => bif decide (a2 < a1) then bif decide ((0 : Int) ≤ a2) && true then a0[a2.toNat]?.bind fun t => (q4g.f K t a5).bind fun t => bif t then some (Sum.inr a2) else l0.f K k a0 a1 (IntKind.i64.wrap (a2 + (1 : Int))) a5 else none else some (Sum.inl ())
noncomputable def l0.b (K : Nat) : Lp M 1 := q3s (X K) 2 19 0 (q01 Tryz.f228 0) ⟨[0, 1, 7, 8], (.cons (.ty (.slice yI)) (.cons (.fn 224 .unit (.ptr 0 0)) (.cons (.ty yI) (.ty yI)))), [hh1a]⟩ ⟨[], .unit, [hh1a]⟩ ⟨[4], (.ty yI), [hh1a]⟩ K [] (fun k x => l0.f K k x.1.1 x.1.2.2.1 x.1.2.2.2 x.2.1.2.2.1) (fun x r => ((), x.2)) (fun x r => (r, x.2)) fun k x => by
  rw [q0a, l0.f]
  try simp only [el]
  kernel_rfl
noncomputable def f (K : Nat) (a0 : List Int) (a3 : Int) : Option (Int) := (l0.f K K a0 (↑a0.length : Int) (0 : Int) a3).bind fun t => Sum.elim (fun t => some (-1 : Int)) (fun t => some t) t
noncomputable def e (K : Nat) : En M := fnE (X K) 228 Tryz.func228 ⟨(.cons (.ty (.slice yI)) (.fn 224 .unit (.ptr 0 0))), [hh1a], (.ty yI), [hh1a]⟩ [l0.b K] (fun x => f K x.1.1 x.2.1.2.2.1) (fun x r => (r, x.2)) fun x => by
  rw [q0a, f]
  try simp only [el]
  kernel_rfl
end q09
namespace q1y
noncomputable def f (K : Nat) (a0 : List Int) (a3 : Int) : Option (Bool) := (q09.f K a0 a3).bind fun t => some (decide (t ≥ (0 : Int)))
noncomputable def e (K : Nat) : En M := fnE (m := 1) { hmx := mxd, nt := 9, cs := [q09.e K] } 223 Tryz.func223 ⟨(.cons (.ty (.slice yI)) (.fn 224 .unit (.ptr 0 0))), [hh1a], (.ty .bool), [hh1a]⟩ [] (fun x => f K x.1.1 x.2.1.2.2.1) (fun x r => (r, x.2)) fun x => by
  rw [q0a, f]
  try simp only [el]
  kernel_rfl
end q1y
namespace q3l
noncomputable def X (K : Nat) : Fx M 0 := { hmx := mxd, nt := 94, cs := [q2l.e K, q55.e K, q10.e K, q9r.e K, q1y.e K], cp := [(6, [.bool], [21]), (7, [.bool], [21]), (8, [.bool], [21]), (10, [.bool], [52])] }
noncomputable def f (K : Nat) (a0 : List Int) (a1 : List q0x) (a2 : List q0g) (a5 : Int) (a7 : Int) (a8 : Int) (a9 : Int) (a10 : Int) (a11 : Int) (a12 : List Int) : Option (Int) := (q2l.f K a7).bind fun t => bif !t.2.2.2.2 then some (5 : Int) else (q55.f K a7 a8 a9 a10 a11 a12 t.1 t.2.1 t.2.2.1 t.2.2.2.1).bind fun t_1 => bif t_1 then some (3 : Int) else q1g (bif t.1 then (q10.f K a8 a5).bind fun t => some !t else some false) fun t_2 => bif t_2 then some (9 : Int) else q1g (bif t.2.1 then (q10.f K a9 a5).bind fun t => some !t else some false) fun t_3 => bif t_3 then some (9 : Int) else q1g (bif t.2.2.1 then (q10.f K a10 a5).bind fun t => some !t else some false) fun t => bif t then some (9 : Int) else q1g (bif a7 == (13 : Int) then (q10.f K a10 (↑a0.length : Int)).bind fun t => some !t else bif a7 == (14 : Int) then (q10.f K a10 (↑a0.length : Int)).bind fun t => some !t else some false) fun t => bif t then some (4 : Int) else bif a7 != (17 : Int) then some (0 : Int) else (q9r.f K a1 a2 a10).bind fun t => bif t == (-1 : Int) then some (7 : Int) else (q9r.f K a1 a2 a10).bind fun t => bif (↑a12.length : Int) != t then some (10 : Int) else (q1y.f K a12 a5).bind fun t => bif t then some (9 : Int) else some (0 : Int)
noncomputable def e (K : Nat) : En M := fnE (X K) 210 Tryz.func210 ⟨(.cons (.agg (.cons (.ty (.slice yI)) (.cons (.ty (.slice q3x)) (.ty (.slice q2h))))) (.cons (.agg (.cons (.ty .str) (.cons (.ty yI) (.cons (.ty yI) (.ty (.slice q2r)))))) (.agg (.cons (.ty yI) (.cons (.ty yI) (.cons (.ty yI) (.cons (.ty yI) (.cons (.ty yI) (.ty (.slice yI)))))))))), [], (.ty yI), []⟩ [] (fun x => f K x.1.1.1 x.1.1.2.1 x.1.1.2.2 x.1.2.1.2.2.1 x.1.2.2.1 x.1.2.2.2.1 x.1.2.2.2.2.1 x.1.2.2.2.2.2.1 x.1.2.2.2.2.2.2.1 x.1.2.2.2.2.2.2.2) (fun x r => (r, ())) fun x => by
  rw [q0a, f]
  try simp only [el]
  kernel_rfl
end q3l
namespace q5r
noncomputable def X (K : Nat) : Fx M 0 := { hmx := mxd, nt := 73, cs := [q10.e K], cp := [(6, [.bool], [11]), (7, [.bool], [11]), (8, [.bool], [11]), (10, [.bool], [36]), (12, [.bool], [48]), (13, [.bool], [48])] }
noncomputable def f (K : Nat) (a2 : Int) (a3 : List q1m) (a4 : Int) (a5 : Int) (a6 : Int) (a7 : Int) : Option (Int) := bif a4 == (1 : Int) then q1g (bif a4 == (1 : Int) then some (a5 != (0 : Int)) else some false) fun t => bif t then some (3 : Int) else q1g (bif a4 == (3 : Int) then some (a6 != (0 : Int)) else some false) fun t => bif t then some (3 : Int) else q1g (bif a4 != (2 : Int) then some (a7 != (0 : Int)) else some false) fun t => bif t then some (3 : Int) else q1g (bif a4 != (1 : Int) then (q10.f K a5 a2).bind fun t => some !t else some false) fun t => bif t then some (9 : Int) else q1g (bif a4 != (3 : Int) then (q10.f K a6 (↑a3.length : Int)).bind fun t => some !t else some false) fun t => bif t then some (8 : Int) else q1g (bif a4 == (2 : Int) then (q10.f K a7 (↑a3.length : Int)).bind fun t => some !t else some false) fun t => bif t then some (8 : Int) else some (0 : Int) else bif a4 == (2 : Int) then q1g (bif a4 == (1 : Int) then some (a5 != (0 : Int)) else some false) fun t => bif t then some (3 : Int) else q1g (bif a4 == (3 : Int) then some (a6 != (0 : Int)) else some false) fun t => bif t then some (3 : Int) else q1g (bif a4 != (2 : Int) then some (a7 != (0 : Int)) else some false) fun t => bif t then some (3 : Int) else q1g (bif a4 != (1 : Int) then (q10.f K a5 a2).bind fun t => some !t else some false) fun t => bif t then some (9 : Int) else q1g (bif a4 != (3 : Int) then (q10.f K a6 (↑a3.length : Int)).bind fun t => some !t else some false) fun t => bif t then some (8 : Int) else q1g (bif a4 == (2 : Int) then (q10.f K a7 (↑a3.length : Int)).bind fun t => some !t else some false) fun t => bif t then some (8 : Int) else some (0 : Int) else bif a4 == (3 : Int) then q1g (bif a4 == (1 : Int) then some (a5 != (0 : Int)) else some false) fun t => bif t then some (3 : Int) else q1g (bif a4 == (3 : Int) then some (a6 != (0 : Int)) else some false) fun t => bif t then some (3 : Int) else q1g (bif a4 != (2 : Int) then some (a7 != (0 : Int)) else some false) fun t => bif t then some (3 : Int) else q1g (bif a4 != (1 : Int) then (q10.f K a5 a2).bind fun t => some !t else some false) fun t => bif t then some (9 : Int) else q1g (bif a4 != (3 : Int) then (q10.f K a6 (↑a3.length : Int)).bind fun t => some !t else some false) fun t => bif t then some (8 : Int) else q1g (bif a4 == (2 : Int) then (q10.f K a7 (↑a3.length : Int)).bind fun t => some !t else some false) fun t => bif t then some (8 : Int) else some (0 : Int) else some (5 : Int)
noncomputable def e (K : Nat) : En M := fnE (X K) 211 Tryz.func211 ⟨(.cons (.agg (.cons (.ty .str) (.cons (.ty yI) (.cons (.ty yI) (.ty (.slice q2r)))))) (.agg (.cons (.ty yI) (.cons (.ty yI) (.cons (.ty yI) (.ty yI)))))), [], (.ty yI), []⟩ [] (fun x => f K x.1.1.2.2.1 x.1.1.2.2.2 x.1.2.1 x.1.2.2.1 x.1.2.2.2.1 x.1.2.2.2.2) (fun x r => (r, ())) fun x => by
  rw [q0a, f]
  try simp only [el]
  kernel_rfl
end q5r
namespace q1z
noncomputable def X (K : Nat) : Fx M 0 := { hmx := mxd, nt := 49, cs := [q3l.e K, q1d.e K, q5r.e K] }
noncomputable def l0.f (K : Nat) : Nat → List q3n → Int → Int → List Int → List q0x → List q0g → Int → Option ((Unit) ⊕ (Err))
  | 0, _, _, _, _, _, _, _ => none
  | k + 1, a0, a1, a2, a3, a4, a5, a8 => bif decide (a2 < a1) then bif decide ((0 : Int) ≤ a2) && true then a0[a2.toNat]?.bind fun t => (q3l.f K a3 a4 a5 a8 t.1 t.2.1 t.2.2.1 t.2.2.2.1 t.2.2.2.2.1 t.2.2.2.2.2).bind fun t => bif t != (0 : Int) then (q1d.f K (Err.no t) [a2]).bind fun t => some (Sum.inr t) else l0.f K k a0 a1 (IntKind.i64.wrap (a2 + (1 : Int))) a3 a4 a5 a8 else none else some (Sum.inl ())
noncomputable def l0.b (K : Nat) : Lp M 0 := q3s (X K) 4 49 0 (q01 Tryz.f183 0) ⟨[3, 4, 5, 17, 18, 19], (.cons (.ptr 0 0) (.cons (.ptr 1 0) (.cons (.ptr 2 0) (.cons (.ty (.slice q6t)) (.cons (.ty yI) (.ty yI)))))), [hh17, hh1a, hh1b]⟩ ⟨[4, 5], sh1c, [hh1a, hh1b]⟩ ss1d K [] (fun k x => l0.f K k x.1.2.2.2.1 x.1.2.2.2.2.1 x.1.2.2.2.2.2 x.2.1.1 x.2.1.2.1 x.2.1.2.2 x.2.2.1.2.2.1) (fun x r => (((), ()), x.2.2)) (fun x r => (r, ())) fun k x => by
  rw [q0a, l0.f]
  try simp only [el]
  kernel_rfl
noncomputable def f (K : Nat) (a0 : List Int) (a1 : List q0x) (a2 : List q0g) (a5 : Int) (a6 : List q1m) (a7 : List q3n) (a8 : Int) (a9 : Int) (a10 : Int) (a11 : Int) : Option (Err) := bif decide ((↑a7.length : Int) > (12 : Int)) then some (Err.no (11 : Int)) else (l0.f K K a7 (↑a7.length : Int) (0 : Int) a0 a1 a2 a5).bind fun t => Sum.elim (fun t => (q5r.f K a5 a6 a8 a9 a10 a11).bind fun t => bif t != (0 : Int) then q1d.f K (Err.no t) [(↑a7.length : Int)] else some Err.nil) (fun t => some t) t
noncomputable def e (K : Nat) : En M := fnE (X K) 183 Tryz.func183 ⟨(.cons (.agg (.cons (.ty (.slice yI)) (.cons (.ty (.slice q3x)) (.ty (.slice q2h))))) (.cons (.agg (.cons (.ty .str) (.cons (.ty yI) (.cons (.ty yI) (.ty (.slice q2r)))))) (.agg (.cons (.ty (.slice q6t)) (.cons (.ty yI) (.cons (.ty yI) (.cons (.ty yI) (.ty yI)))))))), [], (.ty .err), []⟩ [l0.b K] (fun x => f K x.1.1.1 x.1.1.2.1 x.1.1.2.2 x.1.2.1.2.2.1 x.1.2.1.2.2.2 x.1.2.2.1 x.1.2.2.2.1 x.1.2.2.2.2.1 x.1.2.2.2.2.2.1 x.1.2.2.2.2.2.2) (fun x r => (r, ())) fun x => by
  rw [q0a, f]
  try simp only [el]
  kernel_rfl
end q1z
namespace q1n
noncomputable def X (K : Nat) : Fx M 0 := { hmx := mxd, nt := 43, cs := [q38.e K, q1z.e K, q1d.e K] }
noncomputable def l0.f (K : Nat) : Nat → Int → List q1m → Int → Int → List Int → List q0x → List q0g → Option ((Unit) ⊕ (Err))
  | 0, _, _, _, _, _, _, _ => none
  | k + 1, a0, a1, a2, a3, a4, a5, a6 => bif decide (a3 < a2) then bif decide ((0 : Int) ≤ a3) && true then a1[a3.toNat]?.bind fun t => bif decide ((0 : Int) ≤ a0) && true then a5[a0.toNat]?.bind fun t_1 => (q1z.f K a4 a5 a6 t_1.2.2.1 t_1.2.2.2 t.1 t.2.1 t.2.2.1 t.2.2.2.1 t.2.2.2.2).bind fun t => bif bif true then !t.isNil else t.isNil then (q1d.f K t [a3]).bind fun t => some (Sum.inr t) else l0.f K k a0 a1 a2 (IntKind.i64.wrap (a3 + (1 : Int))) a4 a5 a6 else none else none else some (Sum.inl ())
noncomputable def l0.b (K : Nat) : Lp M 0 := q3s (X K) 5 43 0 (q01 Tryz.f130 0) ⟨[1, 2, 21, 22, 23], (.cons (.ty yI) (.cons (.ptr 0 0) (.cons (.ty (.slice q2r)) (.cons (.ty yI) (.ty yI))))), [hh17]⟩ ss18 ⟨[4], (.ty .err), []⟩ K [] (fun k x => l0.f K k x.1.1 x.1.2.2.1 x.1.2.2.2.1 x.1.2.2.2.2 x.2.1.1 x.2.1.2.1 x.2.1.2.2) (fun x r => ((), ())) (fun x r => (r, ())) fun k x => by
  rw [q0a, l0.f]
  try simp only [el]
  kernel_rfl
noncomputable def f (K : Nat) (a0 : List Int) (a1 : List q0x) (a2 : List q0g) (a3 : Int) : Option (Err) := (q38.f K a1 a2 a3).bind fun t => bif t != (0 : Int) then some (Err.no t) else bif decide ((0 : Int) ≤ a3) && true then a1[a3.toNat]?.bind fun t => (l0.f K K a3 t.2.2.2 (↑(List.length t.2.2.2) : Int) (0 : Int) a0 a1 a2).bind fun t => Sum.elim (fun t => some Err.nil) (fun t => some t) t else none
noncomputable def e (K : Nat) : En M := fnE (X K) 130 Tryz.func130 ⟨sh15, [], (.ty .err), []⟩ [l0.b K] (fun x => f K x.1.1.1 x.1.1.2.1 x.1.1.2.2 x.1.2) (fun x r => (r, ())) fun x => by
  rw [q0a, f]
  try simp only [el]
  kernel_rfl
end q1n
namespace q21
noncomputable def X (K : Nat) : Fx M 0 := { hmx := mxd, nt := 45, cs := [q3j.e K, q7m.e K, q10.e K], cp := [(4, [.bool], [16])] }
noncomputable def f (K : Nat) (a1 : List q0x) (a2 : List q0g) (a3 : Int) : Option (Int) := bif decide ((0 : Int) ≤ a3) && true then a2[a3.toNat]?.bind fun t => (q3j.f K t.1).bind fun t_1 => bif !t_1 then some (6 : Int) else q1g (bif decide (a3 > (0 : Int)) then bif decide ((0 : Int) ≤ IntKind.i64.wrap (a3 - (1 : Int))) && true then a2[(IntKind.i64.wrap (a3 - (1 : Int))).toNat]?.bind fun t_2 => some (Op.bytesLess (ByteArray.toList t.1) (ByteArray.toList t_2.1) || ByteArray.toList t.1 == ByteArray.toList t_2.1) else none else some false) fun t_2 => bif t_2 then some (3 : Int) else (q7m.f K a1 a2 t.1).bind fun t_3 => bif decide (t_3 < (↑a1.length : Int)) then some (7 : Int) else (q10.f K t.2 (5 : Int)).bind fun t => bif !t then some (10 : Int) else some (0 : Int) else none
noncomputable def e (K : Nat) : En M := fnE (X K) 131 Tryz.func131 ⟨sh15, [], (.ty yI), []⟩ [] (fun x => f K x.1.1.2.1 x.1.1.2.2 x.1.2) (fun x r => (r, ())) fun x => by
  rw [q0a, f]
  try simp only [el]
  kernel_rfl
end q21
namespace q2g
noncomputable def X (K : Nat) : Fx M 0 := { hmx := mxd, nt := 59, cs := [q1n.e K, q1d.e K, q21.e K], cp := [(1, [.bool], [20])] }
noncomputable def l1.f (K : Nat) : Nat → Int → Int → List q0x → List q0g → Option ((Unit) ⊕ (Err))
  | 0, _, _, _, _ => none
  | k + 1, a0, a1, a3, a4 => bif decide (a1 < a0) then (q21.f K a3 a4 a1).bind fun t => bif t != (0 : Int) then (q1d.f K (Err.no t) [IntKind.i64.wrap ((↑a3.length : Int) + a1)]).bind fun t => some (Sum.inr t) else l1.f K k a0 (IntKind.i64.wrap (a1 + (1 : Int))) a3 a4 else some (Sum.inl ())
noncomputable def l1.b (K : Nat) : Lp M 0 := q3s (X K) 11 59 2 (q01 Tryz.f76 1) ⟨[1, 40, 41], sh1e, [hh17]⟩ ss18 ⟨[2], (.ty .err), []⟩ K [] (fun k x => l1.f K k x.1.2.1 x.1.2.2 x.2.1.2.1 x.2.1.2.2) (fun x r => ((), ())) (fun x r => (r, ())) fun k x => by
  rw [q0a, l1.f]
  try simp only [el]
  kernel_rfl
noncomputable def l0.f (K : Nat) : Nat → Int → Int → List Int → List q0x → List q0g → Option ((Unit) ⊕ (Err))
  | 0, _, _, _, _, _ => none
  | k + 1, a0, a1, a2, a3, a4 => bif decide (a1 < a0) then (q1n.f K a2 a3 a4 a1).bind fun t => bif bif true then !t.isNil else t.isNil then (q1d.f K t [a1]).bind fun t => some (Sum.inr t) else l0.f K k a0 (IntKind.i64.wrap (a1 + (1 : Int))) a2 a3 a4 else some (Sum.inl ())
noncomputable def l0.b (K : Nat) : Lp M 0 := q3s (X K) 4 59 0 (q01 Tryz.f76 0) ⟨[1, 24, 25], sh1e, [hh17]⟩ ⟨[1], (.ptr 0 0), [hh17]⟩ ⟨[2], (.ty .err), []⟩ K [] (fun k x => l0.f K k x.1.2.1 x.1.2.2 x.2.1.1 x.2.1.2.1 x.2.1.2.2) (fun x r => ((), x.2)) (fun x r => (r, ())) fun k x => by
  rw [q0a, l0.f]
  try simp only [el]
  kernel_rfl
noncomputable def f (K : Nat) (a0 : List Int) (a1 : List q0x) (a2 : List q0g) : Option (Err) := q1g (bif decide ((↑a0.length : Int) > (16 : Int)) then some true else some (decide (IntKind.i64.wrap ((↑a1.length : Int) + (↑a2.length : Int)) > (24 : Int)))) fun t => bif t then some (Err.no (11 : Int)) else (l0.f K K (↑a1.length : Int) (0 : Int) a0 a1 a2).bind fun t => Sum.elim (fun t => (l1.f K K (↑a2.length : Int) (0 : Int) a1 a2).bind fun t => Sum.elim (fun t => some Err.nil) (fun t => some t) t) (fun t => some t) t
noncomputable def e (K : Nat) : En M := fnE (X K) 76 Tryz.func76 ⟨sh13, [], (.ty .err), []⟩ [l0.b K, l1.b K] (fun x => f K x.1.1 x.1.2.1 x.1.2.2) (fun x r => (r, ())) fun x => by
  rw [q0a, f]
  try simp only [el]
  kernel_rfl
end q2g
namespace q6g
noncomputable def f (K : Nat) (a0 : List Int) (a1 : Int) : Option (List Int × List q0x × List q0g × Err × Int) := (q08.f K a0 a1).bind fun t => bif bif false then !t.2.2.2.1.isNil else t.2.2.2.1.isNil then (q2g.f K t.1 t.2.1 t.2.2.1).bind fun t_1 => bif bif true then !t_1.isNil else t_1.isNil then some ([], [], [], t_1, t.2.2.2.2) else some (t.1, t.2.1, t.2.2.1, Err.nil, t.2.2.2.2) else bif bif true then !t.2.2.2.1.isNil else t.2.2.2.1.isNil then some ([], [], [], t.2.2.2.1, t.2.2.2.2) else some (t.1, t.2.1, t.2.2.1, Err.nil, t.2.2.2.2)
noncomputable def e (K : Nat) : En M := fnE (m := 1) { hmx := mxd, nt := 32, cs := [q08.e K, q2g.e K] } 71 Tryz.func71 ⟨(.ptr 0 0), [hh1], sh1f, [hh1]⟩ [] (fun x => f K x.2.1.1 x.2.1.2) (fun x r => (((r.1, r.2.1, r.2.2.1), r.2.2.2.1), (x.2.1.1, r.2.2.2.2), ())) fun x => by
  rw [q0a, f]
  try simp only [el]
  kernel_rfl
end q6g
namespace q3z
noncomputable def X (K : Nat) : Fx M 2 := { hmx := mxd, nt := 69, cs := [q4o.e K, q1q.e K, q02.e K, q1d.e K, q2k.e K, q1t.e K, q1p.e K, q6g.e K], cp := [(3, [.bool], [30])], alt := [70] }
noncomputable def f (K : Nat) (a0 : Err) (a1 : List Int) (a2 : Int) : Option (List Int × List q0x × List q0g × Bool × Err × Int) := (q4o.f K).bind fun t => (q1q.f K (↑t.length : Int) a1 a2).bind fun t => (q02.f K t.2.1 a0).bind fun t_1 => q1g (bif bif false then !t.2.1.isNil else t.2.1.isNil then (q4o.f K).bind fun t_2 => some !(strOf t.1).toList == (strOf t_2).toList else some false) fun t_2 => bif t_2 then (q1d.f K (Err.no (3 : Int)) [(0 : Int)]).bind fun t_3 => (q02.f K t_3 t_1).bind fun t_4 => (q2k.f K (1 : Int) t_4 a1 t.2.2).bind fun t => bif bif true then !t.2.1.isNil else t.2.1.isNil then some ([], [], [], false, t.2.1, t.2.2) else (q1t.f K a1 t.2.2).elim ((q1p.f K a1 t.2.2).bind fun t_5 => bif bif true then !t_5.2.1.isNil else t_5.2.1.isNil then (q02.f K t_5.2.1 t.2.1).bind fun t => some ([], [], [], false, t, t_5.2.2) else none) fun t_5 => bif bif true then !t_5.1.isNil else t_5.1.isNil then (q02.f K t_5.1 t.2.1).bind fun t => some ([], [], [], false, t, t_5.2.1) else (q6g.f K t_5.2.2.1 t_5.2.2.2).bind fun t_6 => (q02.f K t_6.2.2.2.1 t.2.1).bind fun t_7 => some (t_6.1, t_6.2.1, t_6.2.2.1, t.1 == (1 : Int), t_7, t_5.2.1) else (q2k.f K (1 : Int) t_1 a1 t.2.2).bind fun t => bif bif true then !t.2.1.isNil else t.2.1.isNil then some ([], [], [], false, t.2.1, t.2.2) else (q1t.f K a1 t.2.2).elim ((q1p.f K a1 t.2.2).bind fun t_3 => bif bif true then !t_3.2.1.isNil else t_3.2.1.isNil then (q02.f K t_3.2.1 t.2.1).bind fun t => some ([], [], [], false, t, t_3.2.2) else none) fun t_3 => bif bif true then !t_3.1.isNil else t_3.1.isNil then (q02.f K t_3.1 t.2.1).bind fun t => some ([], [], [], false, t, t_3.2.1) else (q6g.f K t_3.2.2.1 t_3.2.2.2).bind fun t_4 => (q02.f K t_4.2.2.2.1 t.2.1).bind fun t_5 => some (t_4.1, t_4.2.1, t_4.2.2.1, t.1 == (1 : Int), t_5, t_3.2.1)
noncomputable def e (K : Nat) : En M := fnE (X K) 18 Tryz.func18 ⟨(.ptr 0 0), [hh4, hh1], (.cons (.agg (.cons (.ty (.slice yI)) (.cons (.ty (.slice q3x)) (.ty (.slice q2h))))) (.ty .bool)), [hh4, hh1]⟩ [] (fun x => f K x.2.1.2 x.2.2.1.1 x.2.2.1.2) (fun x r => (((r.1, r.2.1, r.2.2.1), r.2.2.2.1), ((), r.2.2.2.2.1), (x.2.2.1.1, r.2.2.2.2.2), ())) fun x => by
  rw [q0a, f]
  try simp only [el]
  kernel_rfl
end q3z
namespace z0r
noncomputable def f (K : Nat) (a0 : Int) (a1 : Int) : Option (Int × Bool) := (q2l.f K a0).bind fun t => bif !t.1 then some ((0 : Int), false) else some (a1, true)
noncomputable def e (K : Nat) : En M := fnE (m := 0) { hmx := mxd, nt := 16, cs := [q2l.e K] } 136 Tryz.func136 ⟨sh7, [], sh20, []⟩ [] (fun x => f K x.1.1 x.1.2.1) (fun x r => ((r.1, r.2), ())) fun x => by
  rw [q0a, f]
  try simp only [el]
  kernel_rfl
end z0r
namespace q30
noncomputable def X (K : Nat) : Fx M 0 := { hmx := mxd, nt := 25, cs := [z0r.e K] }
noncomputable def l0.f (K : Nat) : Nat → Int → List q3n → Int → Int → Option (Int)
  | 0, _, _, _, _ => none
  | k + 1, a0, a1, a2, a3 => bif decide (a3 < a2) then bif decide ((0 : Int) ≤ a3) && true then a1[a3.toNat]?.bind fun t => (z0r.f K t.1 t.2.1).bind fun t => bif t.2 then l0.f K k (IntKind.i64.wrap (a0 + (1 : Int))) a1 a2 (IntKind.i64.wrap (a3 + (1 : Int))) else l0.f K k a0 a1 a2 (IntKind.i64.wrap (a3 + (1 : Int))) else none else some a0
noncomputable def l0.b (K : Nat) : Lp M 0 := q24 (X K) 3 25 0 (q01 Tryz.f126 0) ⟨[3, 9, 10, 11], (.cons (.ty yI) (.cons (.ty (.slice q6t)) (.cons (.ty yI) (.ty yI)))), []⟩ ⟨[3], (.ty yI), []⟩ K [] (fun k x => l0.f K k x.1.1 x.1.2.1 x.1.2.2.1 x.1.2.2.2) (fun x r => (r, ())) fun k x => by
  rw [q0a, l0.f]
  try simp only [el]
  kernel_rfl
noncomputable def f (K : Nat) (a0 : List q3n) : Option (Int) := l0.f K K (0 : Int) a0 (↑a0.length : Int) (0 : Int)
noncomputable def e (K : Nat) : En M := fnE (X K) 126 Tryz.func126 ⟨shc, [], (.ty yI), []⟩ [l0.b K] (fun x => f K x.1.1) (fun x r => (r, ())) fun x => by
  rw [q0a, f]
  try simp only [el]
  kernel_rfl
end q30
namespace q34
noncomputable def X (K : Nat) : Fx M 0 := { hmx := mxd, nt := 22, cs := [q30.e K] }
noncomputable def l0.f (K : Nat) : Nat → Int → List q1m → Int → Int → Option (Int)
  | 0, _, _, _, _ => none
  | k + 1, a0, a1, a2, a3 => bif decide (a3 < a2) then bif decide ((0 : Int) ≤ a3) && true then a1[a3.toNat]?.bind fun t => (q30.f K t.1).bind fun t => l0.f K k (IntKind.i64.wrap (a0 + t)) a1 a2 (IntKind.i64.wrap (a3 + (1 : Int))) else none else some a0
noncomputable def l0.b (K : Nat) : Lp M 0 := q24 (X K) 3 22 0 (q01 Tryz.f72 0) ⟨[3, 10, 11, 12], (.cons (.ty yI) (.cons (.ty (.slice q2r)) (.cons (.ty yI) (.ty yI)))), []⟩ ⟨[3], (.ty yI), []⟩ K [] (fun k x => l0.f K k x.1.1 x.1.2.1 x.1.2.2.1 x.1.2.2.2) (fun x r => (r, ())) fun k x => by
  rw [q0a, l0.f]
  try simp only [el]
  kernel_rfl
noncomputable def f (K : Nat) (a2 : Int) (a3 : List q1m) : Option (Int) := l0.f K K (if (0 : Int) > a2 then (0 : Int) else a2) a3 (↑a3.length : Int) (0 : Int)
noncomputable def e (K : Nat) : En M := fnE (X K) 72 Tryz.func72 ⟨shf, [], (.ty yI), []⟩ [l0.b K] (fun x => f K x.1.2.2.1 x.1.2.2.2) (fun x r => (r, ())) fun x => by
  rw [q0a, f]
  try simp only [el]
  kernel_rfl
end q34
namespace q4u
noncomputable def X (K : Nat) : Fx M 0 := { hmx := mxd, nt := 19, cs := [q34.e K] }
noncomputable def l0.f (K : Nat) : Nat → Int → List q0x → Int → Int → Option (Int)
  | 0, _, _, _, _ => none
  | k + 1, a0, a1, a2, a3 => bif decide (a3 < a2) then bif decide ((0 : Int) ≤ a3) && true then a1[a3.toNat]?.bind fun t => (q34.f K t.2.2.1 t.2.2.2).bind fun t => l0.f K k (IntKind.i64.wrap (a0 + t)) a1 a2 (IntKind.i64.wrap (a3 + (1 : Int))) else none else some a0
noncomputable def l0.b (K : Nat) : Lp M 0 := q24 (X K) 3 19 0 (q01 Tryz.f19 0) ⟨[3, 7, 8, 9], (.cons (.ty yI) (.cons (.ty (.slice q3x)) (.cons (.ty yI) (.ty yI)))), []⟩ ⟨[3], (.ty yI), []⟩ K [] (fun k x => l0.f K k x.1.1 x.1.2.1 x.1.2.2.1 x.1.2.2.2) (fun x r => (r, ())) fun k x => by
  rw [q0a, l0.f]
  try simp only [el]
  kernel_rfl
noncomputable def f (K : Nat) (a1 : List q0x) : Option (Int) := l0.f K K (0 : Int) a1 (↑a1.length : Int) (0 : Int)
noncomputable def e (K : Nat) : En M := fnE (X K) 19 Tryz.func19 ⟨sh13, [], (.ty yI), []⟩ [l0.b K] (fun x => f K x.1.2.1) (fun x r => (r, ())) fun x => by
  rw [q0a, f]
  try simp only [el]
  kernel_rfl
end q4u
namespace q25
noncomputable def f (K : Nat) : Option (Unit) := some ()
noncomputable def e (K : Nat) : En M := fnE (m := 1) { hmx := mxd, nt := 15, cs := [] } 128 Tryz.func128 ⟨(.ptr 0 0), [hh1], (.ptr 1 0), [hh1, hh1]⟩ [] (fun x => f K) (fun x r => ((), x.2.1, x.2)) fun x => by
  rw [q0a, f]
  try simp only [el]
  kernel_rfl
end q25
namespace z0t
noncomputable def f (K : Nat) : Option (Int × Int) := some ((-9223372036854775808 : Int), (9223372036854775807 : Int))
noncomputable def e (K : Nat) : En M := fnE (m := 0) { hmx := mxd, nt := 2, cs := [] } 178 Tryz.func178 ⟨.unit, [], (.agg (.cons (.ty yI) (.ty yI))), []⟩ [] (fun x => f K) (fun x r => ((r.1, r.2), ())) fun x => by
  rw [q0a, f]
  try simp only [el]
  kernel_rfl
end z0t
namespace q4p
noncomputable def X (K : Nat) : Fx M 0 := { hmx := mxd, nt := 9, cs := [], cp := [(1, [.bool], [2])] }
noncomputable def f (K : Nat) (a0 : Int) : Option (Bool) := q1g (bif decide (a0 ≥ (1 : Int)) then some (decide (a0 ≤ (7 : Int))) else some false) fun t => some t
noncomputable def e (K : Nat) : En M := fnE (X K) 144 Tryz.func144 ⟨(.ty yI), [], (.ty .bool), []⟩ [] (fun x => f K x.1) (fun x r => (r, ())) fun x => by
  rw [q0a, f]
  try simp only [el]
  kernel_rfl
end q4p
namespace q3m
noncomputable def X (K : Nat) : Fx M 0 := { hmx := mxd, nt := 9, cs := [], cp := [(1, [.bool], [2])] }
noncomputable def f (K : Nat) (a0 : Int) : Option (Bool) := q1g (bif decide (a0 ≥ (1 : Int)) then some (decide (a0 ≤ (3 : Int))) else some false) fun t => some t
noncomputable def e (K : Nat) : En M := fnE (X K) 147 Tryz.func147 ⟨(.ty yI), [], (.ty .bool), []⟩ [] (fun x => f K x.1) (fun x r => (r, ())) fun x => by
  rw [q0a, f]
  try simp only [el]
  kernel_rfl
end q3m
namespace q5j
noncomputable def f (K : Nat) : Option (Bool) := some true
noncomputable def e (K : Nat) : En M := fnE (m := 0) { hmx := mxd, nt := 5, cs := [] } 180 Tryz.func180 ⟨(.ty yI), [], sh21, []⟩ [] (fun x => f K) (fun x r => ((r, x.1), ())) fun x => by
  rw [q0a, f]
  try simp only [el]
  kernel_rfl
end q5j
namespace q0m
noncomputable def f (K : Nat) (a0 : Int) (a1 : Int) : Option (Bool) := some (decide (a0 ≤ a1))
noncomputable def e (K : Nat) : En M := fnE (m := 0) { hmx := mxd, nt := 8, cs := [] } 146 Tryz.func146 ⟨(.agg (.cons (.ty yI) (.ty yI))), [], (.ty .bool), []⟩ [] (fun x => f K x.1.1 x.1.2) (fun x r => (r, ())) fun x => by
  rw [q0a, f]
  try simp only [el]
  kernel_rfl
end q0m
namespace q6o
noncomputable def sig : Sig := ⟨(.ptr 0 0), [.cells 167 0 (.cons (.ty (.slice (.int .u8))) (.ty yI))], (.cons (.agg (.cons (.ty yI) (.cons (.ty .bool) (.cons (.ty yI) (.cons (.ty yI) (.cons (.ty yI) (.ty yI))))))) (.ty .err)), [.cells 167 0 (.cons (.ty (.slice (.int .u8))) (.ty yI))]⟩
noncomputable def C {α : Type} (K : Nat) : q13 α := callsE (M := M) [q1k.e K, q2b.e K, z0t.e K, q4p.e K, q3m.e K, q1d.e K, q19.e K, q5j.e K, q0m.e K]
noncomputable def CP {α : Type} (K : Nat) : q79 α := (j25 6 (rpCut M q1g [.bool] [40] (C K) (eqBy M.P)) (j25 19 (rpCut M q1g [.bool] [108] (C K) (eqBy M.P)) q67))
theorem CP_ok {α : Type} (K : Nat) : q7g (α := α) M 1 (CP K) := (z3g (z6u z08 (q6q _) mxd) (z3g (z6u z08 (q6q _) mxd) q65))
noncomputable def f (K : Nat) (a0 : List Int) (a1 : Int) : Option (Int × Bool × Int × Int × Int × Int × Err × Int) := (q1k.f K).bind fun t =>
  (q2b.f K a0 a1).bind fun t =>
    bif bif true then !t.2.1.isNil else t.2.1.isNil then some ((0 : Int), false, (0 : Int), (0 : Int), (0 : Int), (0 : Int), t.2.1, t.2.2)
    else
      (z0t.f K).bind fun t_1 =>
        q1g ((q4p.f K (IntKind.i64.wrap (IntKind.u8.wrap (↑(BitVec.ofInt (8 : Nat) t.1 &&& BitVec.ofInt (8 : Nat) (7 : Int)).toNat : Int)))).bind fun t_2 => bif !t_2 then some true else (q3m.f K (IntKind.i64.wrap (IntKind.u8.wrap (↑(BitVec.ofInt (8 : Nat) (t.1.fdiv ((2 : Int) ^ (4 : Nat))) &&& BitVec.ofInt (8 : Nat) (3 : Int)).toNat : Int)))).bind fun t => some !t) fun t_2 =>
          bif t_2 then (q1d.f K (Err.no (13 : Int)) [a1]).bind fun t_3 => some ((0 : Int), false, (0 : Int), (0 : Int), (0 : Int), (0 : Int), t_3, t.2.2)
          else
            bif IntKind.u8.wrap (↑(BitVec.ofInt (8 : Nat) t.1 &&& BitVec.ofInt (8 : Nat) (8 : Int)).toNat : Int) == (0 : Int) then bif IntKind.u8.wrap (↑(BitVec.ofInt (8 : Nat) t.1 &&& BitVec.ofInt (8 : Nat) (64 : Int)).toNat : Int) == (0 : Int) then bif IntKind.u8.wrap (↑(BitVec.ofInt (8 : Nat) t.1 &&& BitVec.ofInt (8 : Nat) (128 : Int)).toNat : Int) == (0 : Int) then bif IntKind.u8.wrap (↑(BitVec.ofInt (8 : Nat) t.1 &&& BitVec.ofInt (8 : Nat) (8 : Int)).toNat : Int) != (0 : Int) then (q5j.f K).bind fun t_3 => q1g (bif IntKind.u8.wrap (↑(BitVec.ofInt (8 : Nat) t.1 &&& BitVec.ofInt (8 : Nat) (64 : Int)).toNat : Int) != (0 : Int) then bif t_1.1 == (-9223372036854775808 : Int) then some true else bif IntKind.u8.wrap (↑(BitVec.ofInt (8 : Nat) t.1 &&& BitVec.ofInt (8 : Nat) (128 : Int)).toNat : Int) != (0 : Int) then bif t_1.2 == (9223372036854775807 : Int) then some true else (q0m.f K t_1.1 t_1.2).bind fun t => some !t else (q0m.f K t_1.1 t_1.2).bind fun t => some !t else bif IntKind.u8.wrap (↑(BitVec.ofInt (8 : Nat) t.1 &&& BitVec.ofInt (8 : Nat) (128 : Int)).toNat : Int) != (0 : Int) then bif t_1.2 == (9223372036854775807 : Int) then some true else (q0m.f K t_1.1 t_1.2).bind fun t => some !t else (q0m.f K t_1.1 t_1.2).bind fun t => some !t) fun t_4 => bif t_4 then (q1d.f K (Err.no (13 : Int)) [a1]).bind fun t_5 => some ((0 : Int), false, (0 : Int), (0 : Int), (0 : Int), (0 : Int), t_5, t.2.2) else some (IntKind.i64.wrap (IntKind.u8.wrap (↑(BitVec.ofInt (8 : Nat) t.1 &&& BitVec.ofInt (8 : Nat) (7 : Int)).toNat : Int)), t_3, (0 : Int), t_1.1, t_1.2, IntKind.i64.wrap (IntKind.u8.wrap (↑(BitVec.ofInt (8 : Nat) (t.1.fdiv ((2 : Int) ^ (4 : Nat))) &&& BitVec.ofInt (8 : Nat) (3 : Int)).toNat : Int)), Err.nil, t.2.2) else q1g (bif IntKind.u8.wrap (↑(BitVec.ofInt (8 : Nat) t.1 &&& BitVec.ofInt (8 : Nat) (64 : Int)).toNat : Int) != (0 : Int) then bif t_1.1 == (-9223372036854775808 : Int) then some true else bif IntKind.u8.wrap (↑(BitVec.ofInt (8 : Nat) t.1 &&& BitVec.ofInt (8 : Nat) (128 : Int)).toNat : Int) != (0 : Int) then bif t_1.2 == (9223372036854775807 : Int) then some true else (q0m.f K t_1.1 t_1.2).bind fun t => some !t else (q0m.f K t_1.1 t_1.2).bind fun t => some !t else bif IntKind.u8.wrap (↑(BitVec.ofInt (8 : Nat) t.1 &&& BitVec.ofInt (8 : Nat) (128 : Int)).toNat : Int) != (0 : Int) then bif t_1.2 == (9223372036854775807 : Int) then some true else (q0m.f K t_1.1 t_1.2).bind fun t => some !t else (q0m.f K t_1.1 t_1.2).bind fun t => some !t) fun t_3 => bif t_3 then (q1d.f K (Err.no (13 : Int)) [a1]).bind fun t_4 => some ((0 : Int), false, (0 : Int), (0 : Int), (0 : Int), (0 : Int), t_4, t.2.2) else some (IntKind.i64.wrap (IntKind.u8.wrap (↑(BitVec.ofInt (8 : Nat) t.1 &&& BitVec.ofInt (8 : Nat) (7 : Int)).toNat : Int)), false, (0 : Int), t_1.1, t_1.2, IntKind.i64.wrap (IntKind.u8.wrap (↑(BitVec.ofInt (8 : Nat) (t.1.fdiv ((2 : Int) ^ (4 : Nat))) &&& BitVec.ofInt (8 : Nat) (3 : Int)).toNat : Int)), Err.nil, t.2.2) else (q19.f K a0 t.2.2).bind fun t_3 => bif bif true then !t_3.2.1.isNil else t_3.2.1.isNil then some ((0 : Int), false, (0 : Int), (0 : Int), (0 : Int), (0 : Int), t_3.2.1, t_3.2.2) else bif IntKind.u8.wrap (↑(BitVec.ofInt (8 : Nat) t.1 &&& BitVec.ofInt (8 : Nat) (8 : Int)).toNat : Int) != (0 : Int) then (q5j.f K).bind fun t_4 => q1g (bif IntKind.u8.wrap (↑(BitVec.ofInt (8 : Nat) t.1 &&& BitVec.ofInt (8 : Nat) (64 : Int)).toNat : Int) != (0 : Int) then bif t_1.1 == (-9223372036854775808 : Int) then some true else bif IntKind.u8.wrap (↑(BitVec.ofInt (8 : Nat) t.1 &&& BitVec.ofInt (8 : Nat) (128 : Int)).toNat : Int) != (0 : Int) then bif t_3.1 == (9223372036854775807 : Int) then some true else (q0m.f K t_1.1 t_3.1).bind fun t => some !t else (q0m.f K t_1.1 t_3.1).bind fun t => some !t else bif IntKind.u8.wrap (↑(BitVec.ofInt (8 : Nat) t.1 &&& BitVec.ofInt (8 : Nat) (128 : Int)).toNat : Int) != (0 : Int) then bif t_3.1 == (9223372036854775807 : Int) then some true else (q0m.f K t_1.1 t_3.1).bind fun t => some !t else (q0m.f K t_1.1 t_3.1).bind fun t => some !t) fun t_5 => bif t_5 then (q1d.f K (Err.no (13 : Int)) [a1]).bind fun t => some ((0 : Int), false, (0 : Int), (0 : Int), (0 : Int), (0 : Int), t, t_3.2.2) else some (IntKind.i64.wrap (IntKind.u8.wrap (↑(BitVec.ofInt (8 : Nat) t.1 &&& BitVec.ofInt (8 : Nat) (7 : Int)).toNat : Int)), t_4, (0 : Int), t_1.1, t_3.1, IntKind.i64.wrap (IntKind.u8.wrap (↑(BitVec.ofInt (8 : Nat) (t.1.fdiv ((2 : Int) ^ (4 : Nat))) &&& BitVec.ofInt (8 : Nat) (3 : Int)).toNat : Int)), Err.nil, t_3.2.2) else q1g (bif IntKind.u8.wrap (↑(BitVec.ofInt (8 : Nat) t.1 &&& BitVec.ofInt (8 : Nat) (64 : Int)).toNat : Int) != (0 : Int) then bif t_1.1 == (-9223372036854775808 : Int) then some true else bif IntKind.u8.wrap (↑(BitVec.ofInt (8 : Nat) t.1 &&& BitVec.ofInt (8 : Nat) (128 : Int)).toNat : Int) != (0 : Int) then bif t_3.1 == (9223372036854775807 : Int) then some true else (q0m.f K t_1.1 t_3.1).bind fun t => some !t else (q0m.f K t_1.1 t_3.1).bind fun t => some !t else bif IntKind.u8.wrap (↑(BitVec.ofInt (8 : Nat) t.1 &&& BitVec.ofInt (8 : Nat) (128 : Int)).toNat : Int) != (0 : Int) then bif t_3.1 == (9223372036854775807 : Int) then some true else (q0m.f K t_1.1 t_3.1).bind fun t => some !t else (q0m.f K t_1.1 t_3.1).bind fun t => some !t) fun t_4 => bif t_4 then (q1d.f K (Err.no (13 : Int)) [a1]).bind fun t => some ((0 : Int), false, (0 : Int), (0 : Int), (0 : Int), (0 : Int), t, t_3.2.2) else some (IntKind.i64.wrap (IntKind.u8.wrap (↑(BitVec.ofInt (8 : Nat) t.1 &&& BitVec.ofInt (8 : Nat) (7 : Int)).toNat : Int)), false, (0 : Int), t_1.1, t_3.1, IntKind.i64.wrap (IntKind.u8.wrap (↑(BitVec.ofInt (8 : Nat) (t.1.fdiv ((2 : Int) ^ (4 : Nat))) &&& BitVec.ofInt (8 : Nat) (3 : Int)).toNat : Int)), Err.nil, t_3.2.2) else (q19.f K a0 t.2.2).bind fun t_3 => bif bif true then !t_3.2.1.isNil else t_3.2.1.isNil then some ((0 : Int), false, (0 : Int), (0 : Int), (0 : Int), (0 : Int), t_3.2.1, t_3.2.2) else bif IntKind.u8.wrap (↑(BitVec.ofInt (8 : Nat) t.1 &&& BitVec.ofInt (8 : Nat) (128 : Int)).toNat : Int) == (0 : Int) then bif IntKind.u8.wrap (↑(BitVec.ofInt (8 : Nat) t.1 &&& BitVec.ofInt (8 : Nat) (8 : Int)).toNat : Int) != (0 : Int) then (q5j.f K).bind fun t_4 => q1g (bif IntKind.u8.wrap (↑(BitVec.ofInt (8 : Nat) t.1 &&& BitVec.ofInt (8 : Nat) (64 : Int)).toNat : Int) != (0 : Int) then bif t_3.1 == (-9223372036854775808 : Int) then some true else bif IntKind.u8.wrap (↑(BitVec.ofInt (8 : Nat) t.1 &&& BitVec.ofInt (8 : Nat) (128 : Int)).toNat : Int) != (0 : Int) then bif t_1.2 == (9223372036854775807 : Int) then some true else (q0m.f K t_3.1 t_1.2).bind fun t => some !t else (q0m.f K t_3.1 t_1.2).bind fun t => some !t else bif IntKind.u8.wrap (↑(BitVec.ofInt (8 : Nat) t.1 &&& BitVec.ofInt (8 : Nat) (128 : Int)).toNat : Int) != (0 : Int) then bif t_1.2 == (9223372036854775807 : Int) then some true else (q0m.f K t_3.1 t_1.2).bind fun t => some !t else (q0m.f K t_3.1 t_1.2).bind fun t => some !t) fun t_5 => bif t_5 then (q1d.f K (Err.no (13 : Int)) [a1]).bind fun t => some ((0 : Int), false, (0 : Int), (0 : Int), (0 : Int), (0 : Int), t, t_3.2.2) else some (IntKind.i64.wrap (IntKind.u8.wrap (↑(BitVec.ofInt (8 : Nat) t.1 &&& BitVec.ofInt (8 : Nat) (7 : Int)).toNat : Int)), t_4, (0 : Int), t_3.1, t_1.2, IntKind.i64.wrap (IntKind.u8.wrap (↑(BitVec.ofInt (8 : Nat) (t.1.fdiv ((2 : Int) ^ (4 : Nat))) &&& BitVec.ofInt (8 : Nat) (3 : Int)).toNat : Int)), Err.nil, t_3.2.2) else q1g (bif IntKind.u8.wrap (↑(BitVec.ofInt (8 : Nat) t.1 &&& BitVec.ofInt (8 : Nat) (64 : Int)).toNat : Int) != (0 : Int) then bif t_3.1 == (-9223372036854775808 : Int) then some true else bif IntKind.u8.wrap (↑(BitVec.ofInt (8 : Nat) t.1 &&& BitVec.ofInt (8 : Nat) (128 : Int)).toNat : Int) != (0 : Int) then bif t_1.2 == (9223372036854775807 : Int) then some true else (q0m.f K t_3.1 t_1.2).bind fun t => some !t else (q0m.f K t_3.1 t_1.2).bind fun t => some !t else bif IntKind.u8.wrap (↑(BitVec.ofInt (8 : Nat) t.1 &&& BitVec.ofInt (8 : Nat) (128 : Int)).toNat : Int) != (0 : Int) then bif t_1.2 == (9223372036854775807 : Int) then some true else (q0m.f K t_3.1 t_1.2).bind fun t => some !t else (q0m.f K t_3.1 t_1.2).bind fun t => some !t) fun t_4 => bif t_4 then (q1d.f K (Err.no (13 : Int)) [a1]).bind fun t => some ((0 : Int), false, (0 : Int), (0 : Int), (0 : Int), (0 : Int), t, t_3.2.2) else some (IntKind.i64.wrap (IntKind.u8.wrap (↑(BitVec.ofInt (8 : Nat) t.1 &&& BitVec.ofInt (8 : Nat) (7 : Int)).toNat : Int)), false, (0 : Int), t_3.1, t_1.2, IntKind.i64.wrap (IntKind.u8.wrap (↑(BitVec.ofInt (8 : Nat) (t.1.fdiv ((2 : Int) ^ (4 : Nat))) &&& BitVec.ofInt (8 : Nat) (3 : Int)).toNat : Int)), Err.nil, t_3.2.2) else (q19.f K a0 t_3.2.2).bind fun t_4 => bif bif true then !t_4.2.1.isNil else t_4.2.1.isNil then some ((0 : Int), false, (0 : Int), (0 : Int), (0 : Int), (0 : Int), t_4.2.1, t_4.2.2) else bif IntKind.u8.wrap (↑(BitVec.ofInt (8 : Nat) t.1 &&& BitVec.ofInt (8 : Nat) (8 : Int)).toNat : Int) != (0 : Int) then (q5j.f K).bind fun t_5 => q1g (bif IntKind.u8.wrap (↑(BitVec.ofInt (8 : Nat) t.1 &&& BitVec.ofInt (8 : Nat) (64 : Int)).toNat : Int) != (0 : Int) then bif t_3.1 == (-9223372036854775808 : Int) then some true else bif IntKind.u8.wrap (↑(BitVec.ofInt (8 : Nat) t.1 &&& BitVec.ofInt (8 : Nat) (128 : Int)).toNat : Int) != (0 : Int) then bif t_4.1 == (9223372036854775807 : Int) then some true else (q0m.f K t_3.1 t_4.1).bind fun t => some !t else (q0m.f K t_3.1 t_4.1).bind fun t => some !t else bif IntKind.u8.wrap (↑(BitVec.ofInt (8 : Nat) t.1 &&& BitVec.ofInt (8 : Nat) (128 : Int)).toNat : Int) != (0 : Int) then bif t_4.1 == (9223372036854775807 : Int) then some true else (q0m.f K t_3.1 t_4.1).bind fun t => some !t else (q0m.f K t_3.1 t_4.1).bind fun t => some !t) fun t_6 => bif t_6 then (q1d.f K (Err.no (13 : Int)) [a1]).bind fun t => some ((0 : Int), false, (0 : Int), (0 : Int), (0 : Int), (0 : Int), t, t_4.2.2) else some (IntKind.i64.wrap (IntKind.u8.wrap (↑(BitVec.ofInt (8 : Nat) t.1 &&& BitVec.ofInt (8 : Nat) (7 : Int)).toNat : Int)), t_5, (0 : Int), t_3.1, t_4.1, IntKind.i64.wrap (IntKind.u8.wrap (↑(BitVec.ofInt (8 : Nat) (t.1.fdiv ((2 : Int) ^ (4 : Nat))) &&& BitVec.ofInt (8 : Nat) (3 : Int)).toNat : Int)), Err.nil, t_4.2.2) else q1g (bif IntKind.u8.wrap (↑(BitVec.ofInt (8 : Nat) t.1 &&& BitVec.ofInt (8 : Nat) (64 : Int)).toNat : Int) != (0 : Int) then bif t_3.1 == (-9223372036854775808 : Int) then some true else bif IntKind.u8.wrap (↑(BitVec.ofInt (8 : Nat) t.1 &&& BitVec.ofInt (8 : Nat) (128 : Int)).toNat : Int) != (0 : Int) then bif t_4.1 == (9223372036854775807 : Int) then some true else (q0m.f K t_3.1 t_4.1).bind fun t => some !t else (q0m.f K t_3.1 t_4.1).bind fun t => some !t else bif IntKind.u8.wrap (↑(BitVec.ofInt (8 : Nat) t.1 &&& BitVec.ofInt (8 : Nat) (128 : Int)).toNat : Int) != (0 : Int) then bif t_4.1 == (9223372036854775807 : Int) then some true else (q0m.f K t_3.1 t_4.1).bind fun t => some !t else (q0m.f K t_3.1 t_4.1).bind fun t => some !t) fun t_5 => bif t_5 then (q1d.f K (Err.no (13 : Int)) [a1]).bind fun t => some ((0 : Int), false, (0 : Int), (0 : Int), (0 : Int), (0 : Int), t, t_4.2.2) else some (IntKind.i64.wrap (IntKind.u8.wrap (↑(BitVec.ofInt (8 : Nat) t.1 &&& BitVec.ofInt (8 : Nat) (7 : Int)).toNat : Int)), false, (0 : Int), t_3.1, t_4.1, IntKind.i64.wrap (IntKind.u8.wrap (↑(BitVec.ofInt (8 : Nat) (t.1.fdiv ((2 : Int) ^ (4 : Nat))) &&& BitVec.ofInt (8 : Nat) (3 : Int)).toNat : Int)), Err.nil, t_4.2.2)
            else (q19.f K a0 t.2.2).bind fun t_3 => bif bif true then !t_3.2.1.isNil else t_3.2.1.isNil then some ((0 : Int), false, (0 : Int), (0 : Int), (0 : Int), (0 : Int), t_3.2.1, t_3.2.2) else bif IntKind.u8.wrap (↑(BitVec.ofInt (8 : Nat) t.1 &&& BitVec.ofInt (8 : Nat) (64 : Int)).toNat : Int) == (0 : Int) then bif IntKind.u8.wrap (↑(BitVec.ofInt (8 : Nat) t.1 &&& BitVec.ofInt (8 : Nat) (128 : Int)).toNat : Int) == (0 : Int) then bif IntKind.u8.wrap (↑(BitVec.ofInt (8 : Nat) t.1 &&& BitVec.ofInt (8 : Nat) (8 : Int)).toNat : Int) != (0 : Int) then (q5j.f K).bind fun t_4 => q1g (bif IntKind.u8.wrap (↑(BitVec.ofInt (8 : Nat) t.1 &&& BitVec.ofInt (8 : Nat) (64 : Int)).toNat : Int) != (0 : Int) then bif t_1.1 == (-9223372036854775808 : Int) then some true else bif IntKind.u8.wrap (↑(BitVec.ofInt (8 : Nat) t.1 &&& BitVec.ofInt (8 : Nat) (128 : Int)).toNat : Int) != (0 : Int) then bif t_1.2 == (9223372036854775807 : Int) then some true else (q0m.f K t_1.1 t_1.2).bind fun t => some !t else (q0m.f K t_1.1 t_1.2).bind fun t => some !t else bif IntKind.u8.wrap (↑(BitVec.ofInt (8 : Nat) t.1 &&& BitVec.ofInt (8 : Nat) (128 : Int)).toNat : Int) != (0 : Int) then bif t_1.2 == (9223372036854775807 : Int) then some true else (q0m.f K t_1.1 t_1.2).bind fun t => some !t else (q0m.f K t_1.1 t_1.2).bind fun t => some !t) fun t_5 => bif t_5 then (q1d.f K (Err.no (13 : Int)) [a1]).bind fun t => some ((0 : Int), false, (0 : Int), (0 : Int), (0 : Int), (0 : Int), t, t_3.2.2) else some (IntKind.i64.wrap (IntKind.u8.wrap (↑(BitVec.ofInt (8 : Nat) t.1 &&& BitVec.ofInt (8 : Nat) (7 : Int)).toNat : Int)), t_4, t_3.1, t_1.1, t_1.2, IntKind.i64.wrap (IntKind.u8.wrap (↑(BitVec.ofInt (8 : Nat) (t.1.fdiv ((2 : Int) ^ (4 : Nat))) &&& BitVec.ofInt (8 : Nat) (3 : Int)).toNat : Int)), Err.nil, t_3.2.2) else q1g (bif IntKind.u8.wrap (↑(BitVec.ofInt (8 : Nat) t.1 &&& BitVec.ofInt (8 : Nat) (64 : Int)).toNat : Int) != (0 : Int) then bif t_1.1 == (-9223372036854775808 : Int) then some true else bif IntKind.u8.wrap (↑(BitVec.ofInt (8 : Nat) t.1 &&& BitVec.ofInt (8 : Nat) (128 : Int)).toNat : Int) != (0 : Int) then bif t_1.2 == (9223372036854775807 : Int) then some true else (q0m.f K t_1.1 t_1.2).bind fun t => some !t else (q0m.f K t_1.1 t_1.2).bind fun t => some !t else bif IntKind.u8.wrap (↑(BitVec.ofInt (8 : Nat) t.1 &&& BitVec.ofInt (8 : Nat) (128 : Int)).toNat : Int) != (0 : Int) then bif t_1.2 == (9223372036854775807 : Int) then some true else (q0m.f K t_1.1 t_1.2).bind fun t => some !t else (q0m.f K t_1.1 t_1.2).bind fun t => some !t) fun t_4 => bif t_4 then (q1d.f K (Err.no (13 : Int)) [a1]).bind fun t => some ((0 : Int), false, (0 : Int), (0 : Int), (0 : Int), (0 : Int), t, t_3.2.2) else some (IntKind.i64.wrap (IntKind.u8.wrap (↑(BitVec.ofInt (8 : Nat) t.1 &&& BitVec.ofInt (8 : Nat) (7 : Int)).toNat : Int)), false, (0 : Int), t_1.1, t_1.2, IntKind.i64.wrap (IntKind.u8.wrap (↑(BitVec.ofInt (8 : Nat) (t.1.fdiv ((2 : Int) ^ (4 : Nat))) &&& BitVec.ofInt (8 : Nat) (3 : Int)).toNat : Int)), Err.nil, t_3.2.2) else (q19.f K a0 t_3.2.2).bind fun t_4 => bif bif true then !t_4.2.1.isNil else t_4.2.1.isNil then some ((0 : Int), false, (0 : Int), (0 : Int), (0 : Int), (0 : Int), t_4.2.1, t_4.2.2) else bif IntKind.u8.wrap (↑(BitVec.ofInt (8 : Nat) t.1 &&& BitVec.ofInt (8 : Nat) (8 : Int)).toNat : Int) != (0 : Int) then (q5j.f K).bind fun t_5 => q1g (bif IntKind.u8.wrap (↑(BitVec.ofInt (8 : Nat) t.1 &&& BitVec.ofInt (8 : Nat) (64 : Int)).toNat : Int) != (0 : Int) then bif t_1.1 == (-9223372036854775808 : Int) then some true else bif IntKind.u8.wrap (↑(BitVec.ofInt (8 : Nat) t.1 &&& BitVec.ofInt (8 : Nat) (128 : Int)).toNat : Int) != (0 : Int) then bif t_4.1 == (9223372036854775807 : Int) then some true else (q0m.f K t_1.1 t_4.1).bind fun t => some !t else (q0m.f K t_1.1 t_4.1).bind fun t => some !t else bif IntKind.u8.wrap (↑(BitVec.ofInt (8 : Nat) t.1 &&& BitVec.ofInt (8 : Nat) (128 : Int)).toNat : Int) != (0 : Int) then bif t_4.1 == (9223372036854775807 : Int) then some true else (q0m.f K t_1.1 t_4.1).bind fun t => some !t else (q0m.f K t_1.1 t_4.1).bind fun t => some !t) fun t_6 => bif t_6 then (q1d.f K (Err.no (13 : Int)) [a1]).bind fun t => some ((0 : Int), false, (0 : Int), (0 : Int), (0 : Int), (0 : Int), t, t_4.2.2) else some (IntKind.i64.wrap (IntKind.u8.wrap (↑(BitVec.ofInt (8 : Nat) t.1 &&& BitVec.ofInt (8 : Nat) (7 : Int)).toNat : Int)), t_5, t_3.1, t_1.1, t_4.1, IntKind.i64.wrap (IntKind.u8.wrap (↑(BitVec.ofInt (8 : Nat) (t.1.fdiv ((2 : Int) ^ (4 : Nat))) &&& BitVec.ofInt (8 : Nat) (3 : Int)).toNat : Int)), Err.nil, t_4.2.2) else q1g (bif IntKind.u8.wrap (↑(BitVec.ofInt (8 : Nat) t.1 &&& BitVec.ofInt (8 : Nat) (64 : Int)).toNat : Int) != (0 : Int) then bif t_1.1 == (-9223372036854775808 : Int) then some true else bif IntKind.u8.wrap (↑(BitVec.ofInt (8 : Nat) t.1 &&& BitVec.ofInt (8 : Nat) (128 : Int)).toNat : Int) != (0 : Int) then bif t_4.1 == (9223372036854775807 : Int) then some true else (q0m.f K t_1.1 t_4.1).bind fun t => some !t else (q0m.f K t_1.1 t_4.1).bind fun t => some !t else bif IntKind.u8.wrap (↑(BitVec.ofInt (8 : Nat) t.1 &&& BitVec.ofInt (8 : Nat) (128 : Int)).toNat : Int) != (0 : Int) then bif t_4.1 == (9223372036854775807 : Int) then some true else (q0m.f K t_1.1 t_4.1).bind fun t => some !t else (q0m.f K t_1.1 t_4.1).bind fun t => some !t) fun t_5 => bif t_5 then (q1d.f K (Err.no (13 : Int)) [a1]).bind fun t => some ((0 : Int), false, (0 : Int), (0 : Int), (0 : Int), (0 : Int), t, t_4.2.2) else some (IntKind.i64.wrap (IntKind.u8.wrap (↑(BitVec.ofInt (8 : Nat) t.1 &&& BitVec.ofInt (8 : Nat) (7 : Int)).toNat : Int)), false, (0 : Int), t_1.1, t_4.1, IntKind.i64.wrap (IntKind.u8.wrap (↑(BitVec.ofInt (8 : Nat) (t.1.fdiv ((2 : Int) ^ (4 : Nat))) &&& BitVec.ofInt (8 : Nat) (3 : Int)).toNat : Int)), Err.nil, t_4.2.2) else (q19.f K a0 t_3.2.2).bind fun t_4 => bif bif true then !t_4.2.1.isNil else t_4.2.1.isNil then some ((0 : Int), false, (0 : Int), (0 : Int), (0 : Int), (0 : Int), t_4.2.1, t_4.2.2) else bif IntKind.u8.wrap (↑(BitVec.ofInt (8 : Nat) t.1 &&& BitVec.ofInt (8 : Nat) (128 : Int)).toNat : Int) == (0 : Int) then bif IntKind.u8.wrap (↑(BitVec.ofInt (8 : Nat) t.1 &&& BitVec.ofInt (8 : Nat) (8 : Int)).toNat : Int) != (0 : Int) then (q5j.f K).bind fun t_5 => q1g (bif IntKind.u8.wrap (↑(BitVec.ofInt (8 : Nat) t.1 &&& BitVec.ofInt (8 : Nat) (64 : Int)).toNat : Int) != (0 : Int) then bif t_4.1 == (-9223372036854775808 : Int) then some true else bif IntKind.u8.wrap (↑(BitVec.ofInt (8 : Nat) t.1 &&& BitVec.ofInt (8 : Nat) (128 : Int)).toNat : Int) != (0 : Int) then bif t_1.2 == (9223372036854775807 : Int) then some true else (q0m.f K t_4.1 t_1.2).bind fun t => some !t else (q0m.f K t_4.1 t_1.2).bind fun t => some !t else bif IntKind.u8.wrap (↑(BitVec.ofInt (8 : Nat) t.1 &&& BitVec.ofInt (8 : Nat) (128 : Int)).toNat : Int) != (0 : Int) then bif t_1.2 == (9223372036854775807 : Int) then some true else (q0m.f K t_4.1 t_1.2).bind fun t => some !t else (q0m.f K t_4.1 t_1.2).bind fun t => some !t) fun t_6 => bif t_6 then (q1d.f K (Err.no (13 : Int)) [a1]).bind fun t => some ((0 : Int), false, (0 : Int), (0 : Int), (0 : Int), (0 : Int), t, t_4.2.2) else some (IntKind.i64.wrap (IntKind.u8.wrap (↑(BitVec.ofInt (8 : Nat) t.1 &&& BitVec.ofInt (8 : Nat) (7 : Int)).toNat : Int)), t_5, t_3.1, t_4.1, t_1.2, IntKind.i64.wrap (IntKind.u8.wrap (↑(BitVec.ofInt (8 : Nat) (t.1.fdiv ((2 : Int) ^ (4 : Nat))) &&& BitVec.ofInt (8 : Nat) (3 : Int)).toNat : Int)), Err.nil, t_4.2.2) else q1g (bif IntKind.u8.wrap (↑(BitVec.ofInt (8 : Nat) t.1 &&& BitVec.ofInt (8 : Nat) (64 : Int)).toNat : Int) != (0 : Int) then bif t_4.1 == (-9223372036854775808 : Int) then some true else bif IntKind.u8.wrap (↑(BitVec.ofInt (8 : Nat) t.1 &&& BitVec.ofInt (8 : Nat) (128 : Int)).toNat : Int) != (0 : Int) then bif t_1.2 == (9223372036854775807 : Int) then some true else (q0m.f K t_4.1 t_1.2).bind fun t => some !t else (q0m.f K t_4.1 t_1.2).bind fun t => some !t else bif IntKind.u8.wrap (↑(BitVec.ofInt (8 : Nat) t.1 &&& BitVec.ofInt (8 : Nat) (128 : Int)).toNat : Int) != (0 : Int) then bif t_1.2 == (9223372036854775807 : Int) then some true else (q0m.f K t_4.1 t_1.2).bind fun t => some !t else (q0m.f K t_4.1 t_1.2).bind fun t => some !t) fun t_5 => bif t_5 then (q1d.f K (Err.no (13 : Int)) [a1]).bind fun t => some ((0 : Int), false, (0 : Int), (0 : Int), (0 : Int), (0 : Int), t, t_4.2.2) else some (IntKind.i64.wrap (IntKind.u8.wrap (↑(BitVec.ofInt (8 : Nat) t.1 &&& BitVec.ofInt (8 : Nat) (7 : Int)).toNat : Int)), false, (0 : Int), t_4.1, t_1.2, IntKind.i64.wrap (IntKind.u8.wrap (↑(BitVec.ofInt (8 : Nat) (t.1.fdiv ((2 : Int) ^ (4 : Nat))) &&& BitVec.ofInt (8 : Nat) (3 : Int)).toNat : Int)), Err.nil, t_4.2.2) else (q19.f K a0 t_4.2.2).bind fun t_5 => bif bif true then !t_5.2.1.isNil else t_5.2.1.isNil then some ((0 : Int), false, (0 : Int), (0 : Int), (0 : Int), (0 : Int), t_5.2.1, t_5.2.2) else bif IntKind.u8.wrap (↑(BitVec.ofInt (8 : Nat) t.1 &&& BitVec.ofInt (8 : Nat) (8 : Int)).toNat : Int) != (0 : Int) then (q5j.f K).bind fun t_6 => q1g (bif IntKind.u8.wrap (↑(BitVec.ofInt (8 : Nat) t.1 &&& BitVec.ofInt (8 : Nat) (64 : Int)).toNat : Int) != (0 : Int) then bif t_4.1 == (-9223372036854775808 : Int) then some true else bif IntKind.u8.wrap (↑(BitVec.ofInt (8 : Nat) t.1 &&& BitVec.ofInt (8 : Nat) (128 : Int)).toNat : Int) != (0 : Int) then bif t_5.1 == (9223372036854775807 : Int) then some true else (q0m.f K t_4.1 t_5.1).bind fun t => some !t else (q0m.f K t_4.1 t_5.1).bind fun t => some !t else bif IntKind.u8.wrap (↑(BitVec.ofInt (8 : Nat) t.1 &&& BitVec.ofInt (8 : Nat) (128 : Int)).toNat : Int) != (0 : Int) then bif t_5.1 == (9223372036854775807 : Int) then some true else (q0m.f K t_4.1 t_5.1).bind fun t => some !t else (q0m.f K t_4.1 t_5.1).bind fun t => some !t) fun t_7 => bif t_7 then (q1d.f K (Err.no (13 : Int)) [a1]).bind fun t => some ((0 : Int), false, (0 : Int), (0 : Int), (0 : Int), (0 : Int), t, t_5.2.2) else some (IntKind.i64.wrap (IntKind.u8.wrap (↑(BitVec.ofInt (8 : Nat) t.1 &&& BitVec.ofInt (8 : Nat) (7 : Int)).toNat : Int)), t_6, t_3.1, t_4.1, t_5.1, IntKind.i64.wrap (IntKind.u8.wrap (↑(BitVec.ofInt (8 : Nat) (t.1.fdiv ((2 : Int) ^ (4 : Nat))) &&& BitVec.ofInt (8 : Nat) (3 : Int)).toNat : Int)), Err.nil, t_5.2.2) else q1g (bif IntKind.u8.wrap (↑(BitVec.ofInt (8 : Nat) t.1 &&& BitVec.ofInt (8 : Nat) (64 : Int)).toNat : Int) != (0 : Int) then bif t_4.1 == (-9223372036854775808 : Int) then some true else bif IntKind.u8.wrap (↑(BitVec.ofInt (8 : Nat) t.1 &&& BitVec.ofInt (8 : Nat) (128 : Int)).toNat : Int) != (0 : Int) then bif t_5.1 == (9223372036854775807 : Int) then some true else (q0m.f K t_4.1 t_5.1).bind fun t => some !t else (q0m.f K t_4.1 t_5.1).bind fun t => some !t else bif IntKind.u8.wrap (↑(BitVec.ofInt (8 : Nat) t.1 &&& BitVec.ofInt (8 : Nat) (128 : Int)).toNat : Int) != (0 : Int) then bif t_5.1 == (9223372036854775807 : Int) then some true else (q0m.f K t_4.1 t_5.1).bind fun t => some !t else (q0m.f K t_4.1 t_5.1).bind fun t => some !t) fun t_6 => bif t_6 then (q1d.f K (Err.no (13 : Int)) [a1]).bind fun t => some ((0 : Int), false, (0 : Int), (0 : Int), (0 : Int), (0 : Int), t, t_5.2.2) else some (IntKind.i64.wrap (IntKind.u8.wrap (↑(BitVec.ofInt (8 : Nat) t.1 &&& BitVec.ofInt (8 : Nat) (7 : Int)).toNat : Int)), false, (0 : Int), t_4.1, t_5.1, IntKind.i64.wrap (IntKind.u8.wrap (↑(BitVec.ofInt (8 : Nat) (t.1.fdiv ((2 : Int) ^ (4 : Nat))) &&& BitVec.ofInt (8 : Nat) (3 : Int)).toNat : Int)), Err.nil, t_5.2.2)
noncomputable def F (K : Nat) : sig.In → Option (Int × Bool × Int × Int × Int × Int × Err × Int) := fun x => f K x.2.1.1 x.2.1.2
noncomputable def cv : sig.In → (Int × Bool × Int × Int × Int × Int × Err × Int) → sig.Ou := fun x r => (((r.1, (r.2.1, (r.2.2.1, (r.2.2.2.1, (r.2.2.2.2.1, r.2.2.2.2.2.1))))), r.2.2.2.2.2.2.1), ((x.2.1.1, r.2.2.2.2.2.2.2), ()))
theorem rets (K : Nat) : ∀ x y, q2u (F K) cv x = some y → Rets M 127 sig x y := z6n (C := (C K)) (LP := q4r) (RF := q42) (CP := (CP K)) z08 mxd q5s (CP_ok K) (show q4x M 1 q4r (q2d (z2s Tryz.f127)) from (show q2d (z2s Tryz.f127) = [q01 Tryz.f127 0] by kernel_rfl) ▸ (z9i (key := 10) (by kernel_rfl) (by kernel_rfl) q5u)) (lb rfl) Tryz.func127 (by kernel_rfl) fun x => by
  rw [q0a]
  unfold F f
  try simp only [el]
  kernel_rfl
noncomputable def e (K : Nat) : En M := ⟨127, sig, _, F K, cv, by rfl, Tryz.f127, Tryz.func127, by kernel_rfl, rfl, rets K⟩
end q6o
namespace q90
noncomputable def f (K : Nat) (a0 : List Int) (a1 : Int) : Option (Int × Bool × Int × Int × Int × Int × Err × Int) := (q25.f K).bind fun t => (q6o.f K a0 a1).bind fun t => bif bif true then !t.2.2.2.2.2.2.1.isNil else t.2.2.2.2.2.2.1.isNil then some ((0 : Int), false, (0 : Int), (0 : Int), (0 : Int), (0 : Int), t.2.2.2.2.2.2.1, a1) else q6o.f K a0 a1
noncomputable def e (K : Nat) : En M := fnE (m := 1) { hmx := mxd, nt := 26, cs := [q25.e K, q6o.e K] } 73 Tryz.func73 ⟨(.ptr 0 0), [hh1], (.cons (.agg (.cons (.ty yI) (.cons (.ty .bool) (.cons (.ty yI) (.cons (.ty yI) (.cons (.ty yI) (.ty yI))))))) (.ty .err)), [hh1]⟩ [] (fun x => f K x.2.1.1 x.2.1.2) (fun x r => (((r.1, r.2.1, r.2.2.1, r.2.2.2.1, r.2.2.2.2.1, r.2.2.2.2.2.1), r.2.2.2.2.2.2.1), (x.2.1.1, r.2.2.2.2.2.2.2), ())) fun x => by
  rw [q0a, f]
  try simp only [el]
  kernel_rfl
end q90
namespace q17
noncomputable def f (K : Nat) (a0 : Err) (a1 : List Int) (a2 : Int) : Option (Int × Bool × Int × Int × Int × Int × Err × Int) := bif bif true then !a0.isNil else a0.isNil then some ((0 : Int), false, (0 : Int), (0 : Int), (0 : Int), (0 : Int), a0, a2) else (q90.f K a1 a2).bind fun t => (q02.f K t.2.2.2.2.2.2.1 a0).bind fun t_1 => some (t.1, t.2.1, t.2.2.1, t.2.2.2.1, t.2.2.2.2.1, t.2.2.2.2.2.1, t_1, t.2.2.2.2.2.2.2)
noncomputable def e (K : Nat) : En M := fnE (m := 2) { hmx := mxd, nt := 23, cs := [q90.e K, q02.e K] } 20 Tryz.func20 ⟨(.ptr 0 0), [hh4, hh1], sh22, [hh4, hh1]⟩ [] (fun x => f K x.2.1.2 x.2.2.1.1 x.2.2.1.2) (fun x r => ((r.1, r.2.1, r.2.2.1, r.2.2.2.1, r.2.2.2.2.1, r.2.2.2.2.2.1), ((), r.2.2.2.2.2.2.1), (x.2.2.1.1, r.2.2.2.2.2.2.2), ())) fun x => by
  rw [q0a, f]
  try simp only [el]
  kernel_rfl
end q17
namespace q20
noncomputable def X (K : Nat) : Fx M 2 := { hmx := mxd, nt := 35, cs := [q2k.e K, q17.e K] }
noncomputable def l0.f (K : Nat) : Nat → Int → Int → Err → List Int → Int → List q0l → Option (Err × Int × List q0l)
  | 0, _, _, _, _, _, _ => none
  | k + 1, a0, a1, a2, a3, a4, a22 => bif decide (a1 < a0) then (q17.f K a2 a3 a4).bind fun t => bif (a22.length + [(t.1, (t.2.1, t.2.2.1), (t.2.2.2.1, t.2.2.2.2.1), t.2.2.2.2.2.1)].length).ble (4000000 : Nat) then l0.f K k a0 (IntKind.i64.wrap (a1 + (1 : Int))) t.2.2.2.2.2.2.1 a3 t.2.2.2.2.2.2.2 (a22 ++ [(t.1, (t.2.1, t.2.2.1), (t.2.2.2.1, t.2.2.2.2.1), t.2.2.2.2.2.1)]) else none else some (a2, a4, a22)
noncomputable def l0.b (K : Nat) : Lp M 2 := q24 (X K) 5 35 0 (q01 Tryz.f22 0) ⟨[0, 4, 6, 18, 19], sh8, hs23⟩ ⟨[0, 4, 6], she, hs23⟩ K [] (fun k (x : ((Unit × (Unit × (Unit × (Int × Int)))) × ((Unit × Err) × (((List Int) × Int) × ((Bool × (Unit × (Bool × (Int × (Bool × (Int × (Int × (Int × Int)))))))) × ((Bool × (Unit × (Bool × (Int × (Bool × (Int × (Int × (Int × Int)))))))) × ((List q0l) × ((List q0l) × Unit)))))))) => l0.f K k x.1.2.2.2.1 x.1.2.2.2.2 x.2.1.2 x.2.2.1.1 x.2.2.1.2 x.2.2.2.2.2.2.1) (fun x r => (((), (), ()), ((), r.1), (x.2.2.1.1, r.2.1), x.2.2.2.1, x.2.2.2.2.1, x.2.2.2.2.2.1, r.2.2, ())) fun k (x : ((Unit × (Unit × (Unit × (Int × Int)))) × ((Unit × Err) × (((List Int) × Int) × ((Bool × (Unit × (Bool × (Int × (Bool × (Int × (Int × (Int × Int)))))))) × ((Bool × (Unit × (Bool × (Int × (Bool × (Int × (Int × (Int × Int)))))))) × ((List q0l) × ((List q0l) × Unit)))))))) => by
  refine Eq.trans ?_ q0a.symm
  rw [l0.f]
  try simp only [el]
  kernel_rfl
noncomputable def f (K : Nat) (a0 : Int) (a1 : Err) (a2 : List Int) (a3 : Int) : Option (Bool × List q0l × Bool × Int × Bool × Int × Int × Int × Int × Err × Int) := (q2k.f K (3 : Int) a1 a2 a3).bind fun t => bif IntKind.u8.wrap (↑(BitVec.ofInt (8 : Nat) t.1 &&& BitVec.ofInt (8 : Nat) (1 : Int)).toNat : Int) != (0 : Int) then (l0.f K K a0 (0 : Int) t.2.1 a2 t.2.2 []).bind fun t_1 => bif IntKind.u8.wrap (↑(BitVec.ofInt (8 : Nat) t.1 &&& BitVec.ofInt (8 : Nat) (2 : Int)).toNat : Int) != (0 : Int) then (q17.f K t_1.1 a2 t_1.2.1).bind fun t_2 => some (IntKind.u8.wrap (↑(BitVec.ofInt (8 : Nat) t.1 &&& BitVec.ofInt (8 : Nat) (1 : Int)).toNat : Int) != (0 : Int), t_1.2.2, IntKind.u8.wrap (↑(BitVec.ofInt (8 : Nat) t.1 &&& BitVec.ofInt (8 : Nat) (2 : Int)).toNat : Int) != (0 : Int), t_2.1, t_2.2.1, t_2.2.2.1, t_2.2.2.2.1, t_2.2.2.2.2.1, t_2.2.2.2.2.2.1, t_2.2.2.2.2.2.2.1, t_2.2.2.2.2.2.2.2) else some (IntKind.u8.wrap (↑(BitVec.ofInt (8 : Nat) t.1 &&& BitVec.ofInt (8 : Nat) (1 : Int)).toNat : Int) != (0 : Int), t_1.2.2, IntKind.u8.wrap (↑(BitVec.ofInt (8 : Nat) t.1 &&& BitVec.ofInt (8 : Nat) (2 : Int)).toNat : Int) != (0 : Int), (0 : Int), false, (0 : Int), (0 : Int), (0 : Int), (0 : Int), t_1.1, t_1.2.1) else bif IntKind.u8.wrap (↑(BitVec.ofInt (8 : Nat) t.1 &&& BitVec.ofInt (8 : Nat) (2 : Int)).toNat : Int) != (0 : Int) then (q17.f K t.2.1 a2 t.2.2).bind fun t_1 => some (IntKind.u8.wrap (↑(BitVec.ofInt (8 : Nat) t.1 &&& BitVec.ofInt (8 : Nat) (1 : Int)).toNat : Int) != (0 : Int), [], IntKind.u8.wrap (↑(BitVec.ofInt (8 : Nat) t.1 &&& BitVec.ofInt (8 : Nat) (2 : Int)).toNat : Int) != (0 : Int), t_1.1, t_1.2.1, t_1.2.2.1, t_1.2.2.2.1, t_1.2.2.2.2.1, t_1.2.2.2.2.2.1, t_1.2.2.2.2.2.2.1, t_1.2.2.2.2.2.2.2) else some (IntKind.u8.wrap (↑(BitVec.ofInt (8 : Nat) t.1 &&& BitVec.ofInt (8 : Nat) (1 : Int)).toNat : Int) != (0 : Int), [], IntKind.u8.wrap (↑(BitVec.ofInt (8 : Nat) t.1 &&& BitVec.ofInt (8 : Nat) (2 : Int)).toNat : Int) != (0 : Int), (0 : Int), false, (0 : Int), (0 : Int), (0 : Int), (0 : Int), t.2.1, t.2.2)
noncomputable def e (K : Nat) : En M := fnE (X K) 22 Tryz.func22 ⟨sh2, [hh4, hh1], (.agg (.cons (.ty .bool) (.cons (.ty (.slice q15)) (.cons (.ty .bool) (.cons (.ty yI) (.cons (.ty .bool) (.cons (.ty yI) (.cons (.ty yI) (.cons (.ty yI) (.ty yI)))))))))), [hh4, hh1]⟩ [l0.b K] (fun x => f K x.1.2 x.2.1.2 x.2.2.1.1 x.2.2.1.2) (fun x r => ((r.1, r.2.1, r.2.2.1, r.2.2.2.1, r.2.2.2.2.1, r.2.2.2.2.2.1, r.2.2.2.2.2.2.1, r.2.2.2.2.2.2.2.1, r.2.2.2.2.2.2.2.2.1), ((), r.2.2.2.2.2.2.2.2.2.1), (x.2.2.1.1, r.2.2.2.2.2.2.2.2.2.2), ())) fun x => by
  rw [q0a, f]
  try simp only [el]
  kernel_rfl
end q20
namespace q8h
noncomputable def X (K : Nat) : Fx M 0 := { hmx := mxd, nt := 29, cs := [], cp := [(2, [.bool], [3])] }
noncomputable def f (K : Nat) (a0 : Int) (a2 : Int) (a3 : Int) : Option (List Int) := bif a0 == (1 : Int) then some [a2] else q1g (bif a0 == (2 : Int) then some (a2 == a3) else some false) fun t => bif t then some [a2] else bif a0 == (2 : Int) then some [a2, a3] else some []
noncomputable def e (K : Nat) : En M := fnE (X K) 204 Tryz.func204 ⟨shb, [], sh24, []⟩ [] (fun x => f K x.1.1 x.1.2.2.1 x.1.2.2.2) (fun x r => (r, ())) fun x => by
  rw [q0a, f]
  try simp only [el]
  kernel_rfl
end q8h
namespace q74
noncomputable def X (K : Nat) : Fx M 0 := { hmx := mxd, nt := 21, cs := [q8h.e K] }
noncomputable def l0.f (K : Nat) : Nat → List q1m → Int → Int → List (List Int) → Option (List (List Int))
  | 0, _, _, _, _ => none
  | k + 1, a0, a1, a2, a3 => bif decide (a2 < a1) then bif decide ((0 : Int) ≤ a2) && true then a0[a2.toNat]?.bind fun t => (q8h.f K t.2.1 t.2.2.2.1 t.2.2.2.2).bind fun t => bif (a3.length + [t].length).ble (4000000 : Nat) then l0.f K k a0 a1 (IntKind.i64.wrap (a2 + (1 : Int))) (a3 ++ [t]) else none else none else some a3
noncomputable def l0.b (K : Nat) : Lp M 0 := q24 (X K) 3 21 0 (q01 Tryz.f171 0) ⟨[3, 7, 8, 9], (.cons (.own 0) (.cons (.ty (.slice q2r)) (.cons (.ty yI) (.ty yI)))), [.list 100 (.slice yI) []]⟩ ⟨[3], (.own 0), [.list 100 (.slice yI) []]⟩ K [] (fun k x => l0.f K k x.1.2.1 x.1.2.2.1 x.1.2.2.2 x.2.1) (fun x r => ((), r, ())) fun k x => by
  rw [q0a, l0.f]
  try simp only [el]
  kernel_rfl
noncomputable def f (K : Nat) (a3 : List q1m) : Option (List (List Int)) := l0.f K K a3 (↑a3.length : Int) (0 : Int) []
noncomputable def e (K : Nat) : En M := fnE (X K) 171 Tryz.func171 ⟨shf, [], (.ty (.slice (.slice yI))), []⟩ [l0.b K] (fun x => f K x.1.2.2.2) (fun x r => (r, ())) fun x => by
  rw [q0a, f]
  try simp only [el]
  kernel_rfl
end q74
namespace q5c
noncomputable def X (K : Nat) : Fx M 0 := { hmx := mxd, nt := 39, cs := [q74.e K], pr := [(11, [.shape 0 39 ⟨[3], (.own 0), hs25⟩, .deep 0])] }
noncomputable def l1.f (K : Nat) : Nat → Int → List Int → Int → Int → List Nat → List (Option (List Int)) → Option (List Nat × List (Option (List Int)))
  | 0, _, _, _, _, _, _ => none
  | k + 1, a0, a4, a5, a6, a7, a8 => bif decide (a6 < a5) then bif decide ((0 : Int) ≤ a6) && true then a4[a6.toNat]?.bind fun t => bif decide ((0 : Int) ≤ t) then bif (Int.toNat t).blt a7.length then a7[Int.toNat t]?.bind fun t_1 => a8[t_1]?.bind fun t_2 => t_2.bind fun t_3 => bif (t_3.length + [a0].length).ble (4000000 : Nat) then bif decide ((0 : Int) ≤ t) then bif (Int.toNat t).blt a7.length then a7[Int.toNat t]?.bind fun t_4 => l1.f K k a0 a4 a5 (IntKind.i64.wrap (a6 + (1 : Int))) (a7.set (Int.toNat t) a8.length) (a8.set t_1 none ++ [some (t_3 ++ [a0])]) else none else none else none else none else none else none else some (a7, a8)
noncomputable def l1.b (K : Nat) : Lp M 0 := q24 (X K) 6 39 2 (q01 Tryz.f118 1) ⟨[3, 4, 13, 14, 15, 20, 21, 22], (.cons (.own 0) (.cons (.ty yI) (.cons (.ty (.slice (.slice yI))) (.cons (.ty yI) (.cons (.ty yI) (.cons (.ty (.slice yI)) (.cons (.ty yI) (.ty yI)))))))), hs25⟩ ⟨[3, 13, 14, 15], sh26, hs25⟩ K [] (fun k x => l1.f K k x.1.2.1 x.1.2.2.2.2.2.1 x.1.2.2.2.2.2.2.1 x.1.2.2.2.2.2.2.2 x.2.1 x.2.2.1) (fun x r => (((), x.1.2.2.1, x.1.2.2.2.1, x.1.2.2.2.2.1), r.1, r.2, ())) fun k x => by
  rw [q0a, l1.f]
  try simp only [el]
  kernel_rfl
noncomputable def l0.f (K : Nat) : Nat → List (List Int) → Int → Int → List Nat → List (Option (List Int)) → Option (List Nat × List (Option (List Int)))
  | 0, _, _, _, _, _ => none
  | k + 1, a0, a1, a2, a3, a4 => bif decide (a2 < a1) then bif decide ((0 : Int) ≤ a2) && true then a0[a2.toNat]?.bind fun t => (l1.f K K a2 t (↑(List.length t) : Int) (0 : Int) a3 a4).bind fun t => l0.f K k a0 a1 (IntKind.i64.wrap (a2 + (1 : Int))) t.1 t.2 else none else some (a3, a4)
noncomputable def l0.b (K : Nat) : Lp M 0 := q24 (X K) 3 39 0 (q01 Tryz.f118 0) ⟨[3, 13, 14, 15], sh26, hs25⟩ ⟨[3], (.own 0), hs25⟩ K [l1.b K] (fun k x => l0.f K k x.1.2.1 x.1.2.2.1 x.1.2.2.2 x.2.1 x.2.2.1) (fun x r => ((), r.1, r.2, ())) fun k x => by
  rw [q0a, l0.f]
  try simp only [el]
  kernel_rfl
noncomputable def f (K : Nat) (a3 : List q1m) : Option (List (List Int)) := bif decide ((↑a3.length : Int) ≤ (4000000 : Int)) && (↑a3.length : Int) == (↑a3.length : Int) && true && true then (q74.f K a3).bind fun t => (l0.f K K t (↑t.length : Int) (0 : Int) (List.range (↑a3.length : Int).toNat) (List.replicate (↑a3.length : Int).toNat (some []))).bind fun t => bif t.1.all (z44 t.2 (Ty.own (0 : Nat))) then some (List.map (z5a yI t.2 (Ty.own (0 : Nat))) t.1) else none else none
noncomputable def e (K : Nat) : En M := fnE (X K) 118 Tryz.func118 ⟨shf, [], (.ty (.slice (.slice yI))), []⟩ [l0.b K, l1.b K] (fun x => f K x.1.2.2.2) (fun x r => (r, ())) fun x => by
  rw [q0a, f]
  try simp only [el]
  kernel_rfl
end q5c
namespace q4e
noncomputable def X (K : Nat) : Fx M 0 := { hmx := mxd, nt := 38, cs := [q5c.e K], cp := [(5, [.bool], [31])] }
noncomputable def l0.f (K : Nat) : Nat → List (List Int) → Int → Int → List Int → Option (List Int)
  | 0, _, _, _, _ => none
  | k + 1, a0, a1, a2, a3 => bif decide (a2 < a1) then bif decide ((0 : Int) ≤ a2) && true then a0[a2.toNat]?.bind fun t => q1g (bif decide (a2 > (0 : Int)) then bif decide ((↑(List.length t) : Int) > (0 : Int)) then bif decide ((0 : Int) ≤ IntKind.i64.wrap ((↑(List.length t) : Int) - (1 : Int))) && true then t[(IntKind.i64.wrap ((↑(List.length t) : Int) - (1 : Int))).toNat]?.bind fun t => some (decide (t ≥ a2)) else none else some false else some false) fun t => bif t then bif (a3.length + [a2].length).ble (4000000 : Nat) then l0.f K k a0 a1 (IntKind.i64.wrap (a2 + (1 : Int))) (a3 ++ [a2]) else none else l0.f K k a0 a1 (IntKind.i64.wrap (a2 + (1 : Int))) a3 else none else some a3
noncomputable def l0.b (K : Nat) : Lp M 0 := q24 (X K) 3 38 0 (q01 Tryz.f63 0) ⟨[3, 8, 9, 10], sh26, [.list 3 yI []]⟩ ⟨[3], (.own 0), [.list 3 yI []]⟩ K [] (fun k x => l0.f K k x.1.2.1 x.1.2.2.1 x.1.2.2.2 x.2.1) (fun x r => ((), r, ())) fun k x => by
  rw [q0a, l0.f]
  try simp only [el]
  kernel_rfl
noncomputable def f (K : Nat) (a3 : List q1m) : Option (List Int) := (q5c.f K a3).bind fun t => l0.f K K t (↑t.length : Int) (0 : Int) [(0 : Int)]
noncomputable def e (K : Nat) : En M := fnE (X K) 63 Tryz.func63 ⟨shf, [], sh24, []⟩ [l0.b K] (fun x => f K x.1.2.2.2) (fun x r => (r, ())) fun x => by
  rw [q0a, f]
  try simp only [el]
  kernel_rfl
end q4e
namespace q3u
noncomputable def X (K : Nat) : Fx M 0 := { hmx := mxd, nt := 22, cs := [q4e.e K] }
noncomputable def l0.f (K : Nat) : Nat → Int → Int → List Int → Option (List Int)
  | 0, _, _, _ => none
  | k + 1, a0, a1, a2 => bif decide (a1 < a0) then bif (a2.length + [a1].length).ble (4000000 : Nat) then l0.f K k a0 (IntKind.i64.wrap (a1 + (1 : Int))) (a2 ++ [a1]) else none else some a2
noncomputable def l0.b (K : Nat) : Lp M 0 := q24 (X K) 5 22 0 (q01 Tryz.f40 0) ⟨[5, 12, 13], (.cons (.own 0) (.cons (.ty yI) (.ty yI))), [.list 3 yI []]⟩ ⟨[5], (.own 0), [.list 3 yI []]⟩ K [] (fun k x => l0.f K k x.1.2.1 x.1.2.2 x.2.1) (fun x r => ((), r, ())) fun k x => by
  rw [q0a, l0.f]
  try simp only [el]
  kernel_rfl
noncomputable def f (K : Nat) (a3 : List q1m) (a4 : Bool) : Option (List Int) := bif a4 then q4e.f K a3 else l0.f K K (↑a3.length : Int) (0 : Int) []
noncomputable def e (K : Nat) : En M := fnE (X K) 40 Tryz.func40 ⟨(.cons (.agg (.cons (.ty .str) (.cons (.ty yI) (.cons (.ty yI) (.ty (.slice q2r)))))) (.ty .bool)), [], sh24, []⟩ [l0.b K] (fun (x : (((ByteArray × (Int × (Int × (List q1m)))) × Bool) × Unit)) => f K x.1.1.2.2.2 x.1.2) (fun x r => (r, ())) fun (x : (((ByteArray × (Int × (Int × (List q1m)))) × Bool) × Unit)) => by
  refine Eq.trans ?_ q0a.symm
  rw [f]
  try simp only [el]
  kernel_rfl
end q3u
namespace q3k
noncomputable def X (K : Nat) : Fx M 1 := { hmx := mxd, nt := 48, cs := [q1q.e K] }
noncomputable def l0.f (K : Nat) : Nat → Int → List Int → Int → Int → List Int → Option ((List Int) ⊕ (Err × List Int))
  | 0, _, _, _, _, _ => none
  | k + 1, a0, a1, a2, a3, a6 => bif decide (a3 < a2) then bif decide ((0 : Int) ≤ IntKind.i64.wrap (a3.tdiv (8 : Int))) && true then a1[(IntKind.i64.wrap (a3.tdiv (8 : Int))).toNat]?.bind fun t => bif decide (a3.tmod (8 : Int) < (0 : Int)) then none else bif IntKind.u8.wrap (↑(BitVec.ofInt (8 : Nat) (Int.fdiv t ((2 : Int) ^ min (a3.tmod (8 : Int)).toNat (8 : Nat))) &&& BitVec.ofInt (8 : Nat) (1 : Int)).toNat : Int) == (0 : Int) then l0.f K k a0 a1 a2 (IntKind.i64.wrap (a3 + (1 : Int))) a6 else bif decide (a3 ≥ a0) then some (Sum.inr (Err.no (3 : Int), [])) else bif (a6.length + [a3].length).ble (4000000 : Nat) then l0.f K k a0 a1 a2 (IntKind.i64.wrap (a3 + (1 : Int))) (a6 ++ [a3]) else none else none else some (Sum.inl a6)
noncomputable def l0.b (K : Nat) : Lp M 1 := q3s (X K) 6 48 0 (q01 Tryz.f218 0) ⟨[1, 6, 8, 24, 25], (.cons (.ty yI) (.cons (.ty (.slice (.int .u8))) (.cons (.own 1) (.cons (.ty yI) (.ty yI))))), hs28⟩ ⟨[8], (.own 1), hs28⟩ ⟨[4, 5], (.cons (.own 1) (.ty .err)), hs28⟩ K [] (fun k x => l0.f K k x.1.1 x.1.2.1 x.1.2.2.2.1 x.1.2.2.2.2 x.2.2.1) (fun x r => ((), x.2.1, r, ())) (fun x r => (((), r.1), x.2.1, r.2, ())) fun k x => by
  rw [q0a, l0.f]
  try simp only [el]
  kernel_rfl
noncomputable def f (K : Nat) (a0 : Int) (a1 : List Int) (a2 : Int) : Option (List Int × Err × Int) := (q1q.f K (IntKind.i64.wrap ((IntKind.i64.wrap (IntKind.i64.wrap (a0 + (8 : Int)) - (1 : Int))).tdiv (8 : Int))) a1 a2).bind fun t => bif bif true then !t.2.1.isNil else t.2.1.isNil then some ([], t.2.1, t.2.2) else (l0.f K K a0 t.1 (IntKind.i64.wrap ((8 : Int) * (↑t.1.length : Int))) (0 : Int) []).bind fun t_1 => Sum.elim (fun t_2 => some (t_2, Err.nil, t.2.2)) (fun t_2 => some (t_2.2, t_2.1, t.2.2)) t_1
noncomputable def e (K : Nat) : En M := fnE (X K) 218 Tryz.func218 ⟨sh2, [hh1], sh27, [hh1]⟩ [l0.b K] (fun x => f K x.1.2 x.2.1.1 x.2.1.2) (fun x r => ((r.1, r.2.1), (x.2.1.1, r.2.2), ())) fun x => by
  rw [q0a, f]
  try simp only [el]
  kernel_rfl
end q3k
namespace q5t
noncomputable def f (K : Nat) (a0 : Int) (a1 : Int) (a2 : List Int) (a3 : Int) : Option (Int × Err × Int) := bif decide (a0 ≥ a1) then some ((0 : Int), Err.no (4 : Int), a3) else (q1w.f K (IntKind.u64.wrap (IntKind.i64.wrap (IntKind.i64.wrap (a1 - (1 : Int)) - a0))) a2 a3).bind fun t => some (IntKind.i64.wrap (a0 + IntKind.i64.wrap t.1), t.2.1, t.2.2)
noncomputable def e (K : Nat) : En M := fnE (m := 1) { hmx := mxd, nt := 29, cs := [q1w.e K] } 227 Tryz.func227 ⟨sh1e, [hh1], (.cons (.ty yI) (.ty .err)), [hh1]⟩ [] (fun x => f K x.1.2.1 x.1.2.2 x.2.1.1 x.2.1.2) (fun x r => ((r.1, r.2.1), (x.2.1.1, r.2.2), ())) fun x => by
  rw [q0a, f]
  try simp only [el]
  kernel_rfl
end q5t
namespace q31
noncomputable def X (K : Nat) : Fx M 1 := { hmx := mxd, nt := 43, cs := [q1w.e K, q5t.e K] }
noncomputable def l0.f (K : Nat) : Nat → Int → Int → Int → Int → List Int → Int → List Int → Option ((Int × List Int) ⊕ (Err × Int × List Int))
  | 0, _, _, _, _, _, _, _ => none
  | k + 1, a0, a1, a2, a3, a4, a5, a6 => bif decide (a3 < a2) then (q5t.f K a1 a0 a4 a5).bind fun t => bif bif true then !t.2.1.isNil else t.2.1.isNil then some (Sum.inr (t.2.1, t.2.2, [])) else bif (a6.length + [t.1].length).ble (4000000 : Nat) then l0.f K k a0 (IntKind.i64.wrap (t.1 + (1 : Int))) a2 (IntKind.u64.wrap (a3 + (1 : Int))) a4 t.2.2 (a6 ++ [t.1]) else none else some (Sum.inl (a5, a6))
noncomputable def l0.b (K : Nat) : Lp M 1 := q3s (X K) 7 43 0 (q01 Tryz.f219 0) ⟨[0, 1, 8, 9, 22, 23], sh29, hs28⟩ ⟨[8], (.own 1), hs28⟩ ⟨[4, 5], (.cons (.own 1) (.ty .err)), hs28⟩ K [] (fun k x => l0.f K k x.1.2.1 x.1.2.2.2.1 x.1.2.2.2.2.1 x.1.2.2.2.2.2 x.2.1.1 x.2.1.2 x.2.2.1) (fun x r => ((), (x.2.1.1, r.1), r.2, ())) (fun x r => (((), r.1), (x.2.1.1, r.2.1), r.2.2, ())) fun k x => by
  rw [q0a, l0.f]
  try simp only [el]
  kernel_rfl
noncomputable def f (K : Nat) (a0 : Int) (a1 : List Int) (a2 : Int) : Option (List Int × Err × Int) := (q1w.f K (IntKind.u64.wrap a0) a1 a2).bind fun t => bif bif true then !t.2.1.isNil else t.2.1.isNil then some ([], t.2.1, t.2.2) else (l0.f K K a0 (0 : Int) t.1 (0 : Int) a1 t.2.2 []).bind fun t => Sum.elim (fun t => some (t.2, Err.nil, t.1)) (fun t => some (t.2.2, t.1, t.2.1)) t
noncomputable def e (K : Nat) : En M := fnE (X K) 219 Tryz.func219 ⟨sh2, [hh1], sh27, [hh1]⟩ [l0.b K] (fun x => f K x.1.2 x.2.1.1 x.2.1.2) (fun x r => ((r.1, r.2.1), (x.2.1.1, r.2.2), ())) fun x => by
  rw [q0a, f]
  try simp only [el]
  kernel_rfl
end q31
namespace q3b
noncomputable def X (K : Nat) : Fx M 1 := { hmx := mxd, nt := 61, cs := [q1w.e K, q5t.e K] }
noncomputable def l1.f (K : Nat) : Nat → Int → Int → List Int → Option (List Int)
  | 0, _, _, _ => none
  | k + 1, a1, a2, a7 => bif decide (a2 ≤ a1) then bif (a7.length + [a2].length).ble (4000000 : Nat) then l1.f K k a1 (IntKind.i64.wrap (a2 + (1 : Int))) (a7 ++ [a2]) else none else some a7
noncomputable def l1.b (K : Nat) : Lp M 1 := q24 (X K) 15 61 2 (q01 Tryz.f220 1) ⟨[0, 1, 8, 12, 13, 24, 25], (.cons (.ptr 0 0) (.cons (.ty yI) (.cons (.own 1) (.cons (.ty yI) (.cons (.ty yI) (.cons (.ty (.int .u64)) (.ty (.int .u64)))))))), hs28⟩ ⟨[0, 1, 8, 12, 24, 25], sh29, hs28⟩ K [] (fun k x => l1.f K k x.1.2.2.2.1 x.1.2.2.2.2.1 x.2.2.1) (fun x r => (((), x.1.2.1, (), x.1.2.2.2.1, x.1.2.2.2.2.2), x.2.1, r, ())) fun k x => by
  rw [q0a, l1.f]
  try simp only [el]
  kernel_rfl
noncomputable def l0.f (K : Nat) : Nat → Int → Int → Int → Int → List Int → Int → List Int → Option ((Int × List Int) ⊕ (Err × Int × List Int))
  | 0, _, _, _, _, _, _, _ => none
  | k + 1, a0, a1, a2, a3, a4, a5, a6 => bif decide (a3 < a2) then (q5t.f K a1 a0 a4 a5).bind fun t => bif bif true then !t.2.1.isNil else t.2.1.isNil then some (Sum.inr (t.2.1, t.2.2, [])) else (q5t.f K t.1 a0 a4 t.2.2).bind fun t_1 => bif bif true then !t_1.2.1.isNil else t_1.2.1.isNil then some (Sum.inr (t_1.2.1, t_1.2.2, [])) else (l1.f K K t_1.1 t.1 a6).bind fun t => l0.f K k a0 (IntKind.i64.wrap (t_1.1 + (2 : Int))) a2 (IntKind.u64.wrap (a3 + (1 : Int))) a4 t_1.2.2 t else some (Sum.inl (a5, a6))
noncomputable def l0.b (K : Nat) : Lp M 1 := q3s (X K) 7 61 0 (q01 Tryz.f220 0) ⟨[0, 1, 8, 9, 24, 25], sh29, hs28⟩ ⟨[8], (.own 1), hs28⟩ ⟨[4, 5], (.cons (.own 1) (.ty .err)), hs28⟩ K [l1.b K] (fun k x => l0.f K k x.1.2.1 x.1.2.2.2.1 x.1.2.2.2.2.1 x.1.2.2.2.2.2 x.2.1.1 x.2.1.2 x.2.2.1) (fun x r => ((), (x.2.1.1, r.1), r.2, ())) (fun x r => (((), r.1), (x.2.1.1, r.2.1), r.2.2, ())) fun k x => by
  rw [q0a, l0.f]
  try simp only [el]
  kernel_rfl
noncomputable def f (K : Nat) (a0 : Int) (a1 : List Int) (a2 : Int) : Option (List Int × Err × Int) := (q1w.f K (IntKind.u64.wrap a0) a1 a2).bind fun t => bif bif true then !t.2.1.isNil else t.2.1.isNil then some ([], t.2.1, t.2.2) else (l0.f K K a0 (0 : Int) t.1 (0 : Int) a1 t.2.2 []).bind fun t => Sum.elim (fun t => some (t.2, Err.nil, t.1)) (fun t => some (t.2.2, t.1, t.2.1)) t
noncomputable def e (K : Nat) : En M := fnE (X K) 220 Tryz.func220 ⟨sh2, [hh1], sh27, [hh1]⟩ [l0.b K, l1.b K] (fun x => f K x.1.2 x.2.1.1 x.2.1.2) (fun x r => ((r.1, r.2.1), (x.2.1.1, r.2.2), ())) fun x => by
  rw [q0a, f]
  try simp only [el]
  kernel_rfl
end q3b
namespace q9j
noncomputable def f (K : Nat) (a0 : Int) (a1 : List Int) (a2 : Int) : Option (List Int × Err × Int) := (q2b.f K a1 a2).bind fun t => bif bif true then !t.2.1.isNil else t.2.1.isNil then some ([], t.2.1, t.2.2) else bif t.1 == (0 : Int) then q3k.f K a0 a1 t.2.2 else bif t.1 == (1 : Int) then q31.f K a0 a1 t.2.2 else bif t.1 == (2 : Int) then q3b.f K a0 a1 t.2.2 else some ([], Err.no (5 : Int), t.2.2)
noncomputable def e (K : Nat) : En M := fnE (m := 1) { hmx := mxd, nt := 39, cs := [q2b.e K, q3k.e K, q31.e K, q3b.e K] } 208 Tryz.func208 ⟨sh2, [hh1], sh27, [hh1]⟩ [] (fun x => f K x.1.2 x.2.1.1 x.2.1.2) (fun x r => ((r.1, r.2.1), (x.2.1.1, r.2.2), ())) fun x => by
  rw [q0a, f]
  try simp only [el]
  kernel_rfl
end q9j
namespace errors_As
noncomputable def f (K : Nat) (a0 : Err) (a1 : Err) : Option (Bool) := bif bif false then !a0.isNil else a0.isNil then some false else bif bif false then !a1.isNil else a1.isNil then none else none
noncomputable def e (K : Nat) : En M := fnE (m := 0) { hmx := mxd, nt := 42, cs := [] } 85 Tryz.func85 ⟨(.cons (.ty .err) (.ty .err)), [], (.ty .bool), []⟩ [] (fun x => f K x.1.1 x.1.2) (fun x r => (r, ())) fun x => by
  rw [q0a, f]
  try simp only [el]
  kernel_rfl
end errors_As
noncomputable def q6u.sig : Sig := ⟨(.ty .err), [], (.ty yI), []⟩
noncomputable def q6u.f (K : Nat) (a0 : Err) : Option (Int) := some (z1m a0)
noncomputable def q6u.e (K : Nat) : En M := ⟨30, q6u.sig, Int, fun x => q6u.f K x.1, fun x r => (r, ()), by rfl, Tryz.f30, Tryz.func30, by kernel_rfl, rfl, fun x y h => (Option.some.inj h) ▸ j3d rfl rfl rfl x⟩
namespace q23
noncomputable def X (K : Nat) : Fx M 0 := { hmx := mxd, nt := 30, cs := [], cp := [(1, [.bool], [13]), (7, [.bool], [27])] }
noncomputable def l0.f (K : Nat) : Nat → Int → Int → List Int → Int → Int → Option ((Unit) ⊕ (Bool))
  | 0, _, _, _, _, _ => none
  | k + 1, a0, a1, a2, a3, a4 => bif decide (a4 < a3) then bif decide ((0 : Int) ≤ a4) && true then a2[a4.toNat]?.bind fun t => q1g (bif decide (t ≤ a1) then some true else some (decide (t ≥ a0))) fun t_1 => bif t_1 then some (Sum.inr false) else l0.f K k a0 t a2 a3 (IntKind.i64.wrap (a4 + (1 : Int))) else none else some (Sum.inl ())
noncomputable def l0.b (K : Nat) : Lp M 0 := q3s (X K) 5 30 0 (q01 Tryz.f151 0) ⟨[0, 5, 14, 15, 16], (.cons (.ty yI) (.cons (.ty yI) (.cons (.ty (.slice yI)) (.cons (.ty yI) (.ty yI))))), []⟩ ss18 ss2b K [] (fun k x => l0.f K k x.1.1 x.1.2.1 x.1.2.2.1 x.1.2.2.2.1 x.1.2.2.2.2) (fun x r => ((), ())) (fun x r => (r, ())) fun k x => by
  rw [q0a, l0.f]
  try simp only [el]
  kernel_rfl
noncomputable def f (K : Nat) (a0 : Int) (a1 : List Int) : Option (Bool) := q1g (bif decide (a0 < (0 : Int)) then some true else some (decide (a0 > (4096 : Int)))) fun t => bif t then some false else (l0.f K K a0 (-1 : Int) a1 (↑a1.length : Int) (0 : Int)).bind fun t => Sum.elim (fun t => some true) (fun t => some t) t
noncomputable def e (K : Nat) : En M := fnE (X K) 151 Tryz.func151 ⟨sh2a, [], (.ty .bool), []⟩ [l0.b K] (fun x => f K x.1.1 x.1.2) (fun x r => (r, ())) fun x => by
  rw [q0a, f]
  try simp only [el]
  kernel_rfl
end q23
namespace q5b
noncomputable def X (K : Nat) : Fx M 0 := { hmx := mxd, nt := 33, cs := [] }
noncomputable def l0.f (K : Nat) : Nat → List Int → Int → Int → List Int → Option (List Int)
  | 0, _, _, _, _ => none
  | k + 1, a0, a1, a2, a3 => bif decide (a2 < a1) then bif decide ((0 : Int) ≤ a2) && true then a0[a2.toNat]?.bind fun t => bif decide ((0 : Int) ≤ IntKind.i64.wrap ((1 : Int) + IntKind.i64.wrap (Int.tdiv t (8 : Int)))) then bif (IntKind.i64.wrap ((1 : Int) + IntKind.i64.wrap (Int.tdiv t (8 : Int)))).toNat.blt a3.length then a3[(IntKind.i64.wrap ((1 : Int) + IntKind.i64.wrap (Int.tdiv t (8 : Int)))).toNat]?.bind fun t_1 => bif decide (Int.tmod t (8 : Int) < (0 : Int)) then none else bif decide ((0 : Int) ≤ IntKind.i64.wrap ((1 : Int) + IntKind.i64.wrap (Int.tdiv t (8 : Int)))) then bif (IntKind.i64.wrap ((1 : Int) + IntKind.i64.wrap (Int.tdiv t (8 : Int)))).toNat.blt a3.length then a3[(IntKind.i64.wrap ((1 : Int) + IntKind.i64.wrap (Int.tdiv t (8 : Int)))).toNat]?.bind fun t_2 => l0.f K k a0 a1 (IntKind.i64.wrap (a2 + (1 : Int))) (a3.set (IntKind.i64.wrap ((1 : Int) + IntKind.i64.wrap (Int.tdiv t (8 : Int)))).toNat (IntKind.u8.wrap (↑(BitVec.ofInt (8 : Nat) t_1 ||| BitVec.ofInt (8 : Nat) (IntKind.u8.wrap ((1 : Int) * (2 : Int) ^ min (Int.tmod t (8 : Int)).toNat (8 : Nat)))).toNat : Int))) else none else none else none else none else none else some a3
noncomputable def l0.b (K : Nat) : Lp M 0 := q24 (X K) 3 33 0 (q01 Tryz.f201 0) ⟨[5, 14, 15, 16], sh2c, [.list 5 (.int .u8) []]⟩ ⟨[5], (.own 0), [.list 5 (.int .u8) []]⟩ K [] (fun k x => l0.f K k x.1.2.1 x.1.2.2.1 x.1.2.2.2 x.2.1) (fun x r => ((), r, ())) fun k x => by
  rw [q0a, l0.f]
  try simp only [el]
  kernel_rfl
noncomputable def f (K : Nat) (a0 : Int) (a1 : List Int) : Option (List Int) := bif decide ((0 : Int) ≤ IntKind.i64.wrap ((1 : Int) + IntKind.i64.wrap ((IntKind.i64.wrap (IntKind.i64.wrap (a0 + (8 : Int)) - (1 : Int))).tdiv (8 : Int)))) && decide (IntKind.i64.wrap ((1 : Int) + IntKind.i64.wrap ((IntKind.i64.wrap (IntKind.i64.wrap (a0 + (8 : Int)) - (1 : Int))).tdiv (8 : Int))) ≤ (4000000 : Int)) && IntKind.i64.wrap ((1 : Int) + IntKind.i64.wrap ((IntKind.i64.wrap (IntKind.i64.wrap (a0 + (8 : Int)) - (1 : Int))).tdiv (8 : Int))) == IntKind.i64.wrap ((1 : Int) + IntKind.i64.wrap ((IntKind.i64.wrap (IntKind.i64.wrap (a0 + (8 : Int)) - (1 : Int))).tdiv (8 : Int))) && true && true && true then l0.f K K a1 (↑a1.length : Int) (0 : Int) (List.replicate (IntKind.i64.wrap ((1 : Int) + IntKind.i64.wrap ((IntKind.i64.wrap (IntKind.i64.wrap (a0 + (8 : Int)) - (1 : Int))).tdiv (8 : Int)))).toNat (0 : Int)) else none
noncomputable def e (K : Nat) : En M := fnE (X K) 201 Tryz.func201 ⟨sh2a, [], sh0, []⟩ [l0.b K] (fun x => f K x.1.1 x.1.2) (fun x r => (r, ())) fun x => by
  rw [q0a, f]
  try simp only [el]
  kernel_rfl
end q5b
namespace q4b
noncomputable def f (K : Nat) : Option (List Int) := some []
noncomputable def e (K : Nat) : En M := fnE (m := 0) { hmx := mxd, nt := 3, cs := [] } 33 Tryz.func33 ⟨.unit, [], (.ptr 0 0), hs2d⟩ [] (fun x => f K) (fun x r => ((), (), r, ())) fun x => by
  rw [q0a, f]
  try simp only [el]
  kernel_rfl
end q4b
namespace q0n
noncomputable def f (K : Nat) (a0 : Int) (a1 : List Int) : Option (List Int) := bif (a1.length + [a0].length).ble (4000000 : Nat) then some (a1 ++ [a0]) else none
noncomputable def e (K : Nat) : En M := fnE (m := 2) { hmx := mxd, nt := 16, cs := [] } 36 Tryz.func36 ⟨(.cons (.ptr 0 0) (.ty (.int .u8))), hs2d, .unit, hs2e⟩ [] (fun x => f K x.1.2 x.2.2.1) (fun x r => ((), (), (), r, ())) fun x => by
  rw [q0a, f]
  try simp only [el]
  kernel_rfl
end q0n
namespace q0d
noncomputable def X (K : Nat) : Fx M 2 := { hmx := mxd, nt := 18, cs := [q0n.e K] }
noncomputable def l0.f (K : Nat) : Nat → Int → List Int → Option (Int × List Int)
  | 0, _, _ => none
  | k + 1, a0, a1 => bif decide (a0 > (127 : Int)) then (q0n.f K (IntKind.u8.wrap (↑(BitVec.ofInt (8 : Nat) (IntKind.u8.wrap (IntKind.u64.wrap (↑(BitVec.ofInt (64 : Nat) a0 &&& BitVec.ofInt (64 : Nat) (127 : Int)).toNat : Int))) ||| BitVec.ofInt (8 : Nat) (128 : Int)).toNat : Int)) a1).bind fun t => l0.f K k (a0.fdiv ((2 : Int) ^ (7 : Nat))) t else some (a0, a1)
noncomputable def l0.b (K : Nat) : Lp M 2 := q24 (X K) 0 18 0 (q01 Tryz.f77 0) ⟨[0, 1], sh5, hs2e⟩ ⟨[0, 1], sh5, hs2e⟩ K [] (fun k x => l0.f K k x.1.2 x.2.2.2.1) (fun x r => (((), r.1), (), (), r.2, ())) fun k x => by
  rw [q0a, l0.f]
  try simp only [el]
  kernel_rfl
noncomputable def f (K : Nat) (a0 : Int) (a1 : List Int) : Option (List Int) := (l0.f K K a0 a1).bind fun t => q0n.f K (IntKind.u8.wrap t.1) t.2
noncomputable def e (K : Nat) : En M := fnE (X K) 77 Tryz.func77 ⟨sh5, hs2d, .unit, hs2e⟩ [l0.b K] (fun x => f K x.1.2 x.2.2.1) (fun x r => ((), (), (), r, ())) fun x => by
  rw [q0a, f]
  try simp only [el]
  kernel_rfl
end q0d
namespace q1s
noncomputable def f (K : Nat) (a0 : List Int) : Option (List Int) := q0j.f K a0
noncomputable def e (K : Nat) : En M := fnE (m := 2) { hmx := mxd, nt := 10, cs := [q0j.e K] } 42 Tryz.func42 ⟨(.ptr 0 0), hs2d, sh0, hs2d⟩ [] (fun x => f K x.2.2.1) (fun x r => (r, x.2)) fun x => by
  rw [q0a, f]
  try simp only [el]
  kernel_rfl
end q1s
namespace q56
noncomputable def X (K : Nat) : Fx M 0 := { hmx := mxd, nt := 32, cs := [q4b.e K, q0n.e K, q0d.e K, q1s.e K] }
noncomputable def l0.f (K : Nat) : Nat → Int → List Int → Int → Int → List Int → Option (List Int)
  | 0, _, _, _, _, _ => none
  | k + 1, a0, a1, a2, a3, a4 => bif decide (a3 < a2) then bif decide ((0 : Int) ≤ a3) && true then a1[a3.toNat]?.bind fun t => (q0d.f K (IntKind.u64.wrap (IntKind.i64.wrap (t - a0))) a4).bind fun t_1 => l0.f K k (IntKind.i64.wrap (t + (1 : Int))) a1 a2 (IntKind.i64.wrap (a3 + (1 : Int))) t_1 else none else some a4
noncomputable def l0.b (K : Nat) : Lp M 0 := q24 (X K) 6 32 0 (q01 Tryz.f202 0) ⟨[3, 4, 15, 16, 17], (.cons (.ptr 0 0) (.cons (.ty yI) (.cons (.ty (.slice yI)) (.cons (.ty yI) (.ty yI))))), hs2d⟩ ⟨[3], (.ptr 0 0), hs2d⟩ K [] (fun k x => l0.f K k x.1.2.1 x.1.2.2.1 x.1.2.2.2.1 x.1.2.2.2.2 x.2.2.1) (fun x r => ((), (), r, ())) fun k x => by
  rw [q0a, l0.f]
  try simp only [el]
  kernel_rfl
noncomputable def f (K : Nat) (a0 : List Int) : Option (List Int) := (q4b.f K).bind fun t => (q0n.f K (1 : Int) t).bind fun t => (q0d.f K (IntKind.u64.wrap (↑a0.length : Int)) t).bind fun t => (l0.f K K (0 : Int) a0 (↑a0.length : Int) (0 : Int) t).bind fun t => q1s.f K t
noncomputable def e (K : Nat) : En M := fnE (X K) 202 Tryz.func202 ⟨sh24, [], sh0, []⟩ [l0.b K] (fun x => f K x.1) (fun x r => (r, ())) fun x => by
  rw [q0a, f]
  try simp only [el]
  kernel_rfl
end q56
namespace q49
noncomputable def X (K : Nat) : Fx M 0 := { hmx := mxd, nt := 48, cs := [], cp := [(6, [.bool], [32])] }
noncomputable def l0.f (K : Nat) : Nat → List Int → Int → Int → List j4c → Option (List j4c)
  | 0, _, _, _, _ => none
  | k + 1, a0, a1, a2, a3 => bif decide (a2 < a1) then bif decide ((0 : Int) ≤ a2) && true then a0[a2.toNat]?.bind fun t => q1g (bif decide (IntKind.i64.wrap ((↑a3.length : Int) - (1 : Int)) ≥ (0 : Int)) then bif decide ((0 : Int) ≤ IntKind.i64.wrap ((↑a3.length : Int) - (1 : Int))) then bif (IntKind.i64.wrap ((↑a3.length : Int) - (1 : Int))).toNat.blt a3.length then a3[(IntKind.i64.wrap ((↑a3.length : Int) - (1 : Int))).toNat]?.bind fun t_1 => bif decide ((0 : Int) ≤ IntKind.i64.wrap ((↑a3.length : Int) - (1 : Int))) then bif (IntKind.i64.wrap ((↑a3.length : Int) - (1 : Int))).toNat.blt a3.length then a3[(IntKind.i64.wrap ((↑a3.length : Int) - (1 : Int))).toNat]?.bind fun t_2 => some (IntKind.i64.wrap (t_1.1 + t_2.2) == t) else none else none else none else none else some false) fun t_1 => bif t_1 then bif decide ((0 : Int) ≤ IntKind.i64.wrap ((↑a3.length : Int) - (1 : Int))) then bif (IntKind.i64.wrap ((↑a3.length : Int) - (1 : Int))).toNat.blt a3.length then a3[(IntKind.i64.wrap ((↑a3.length : Int) - (1 : Int))).toNat]?.bind fun t => bif decide ((0 : Int) ≤ IntKind.i64.wrap ((↑a3.length : Int) - (1 : Int))) then bif (IntKind.i64.wrap ((↑a3.length : Int) - (1 : Int))).toNat.blt a3.length then a3[(IntKind.i64.wrap ((↑a3.length : Int) - (1 : Int))).toNat]?.bind fun t_2 => l0.f K k a0 a1 (IntKind.i64.wrap (a2 + (1 : Int))) (a3.set (IntKind.i64.wrap ((↑a3.length : Int) - (1 : Int))).toNat (t_2.1, IntKind.i64.wrap (t.2 + (1 : Int)))) else none else none else none else none else bif (a3.length + [(t, (1 : Int))].length).ble (4000000 : Nat) then l0.f K k a0 a1 (IntKind.i64.wrap (a2 + (1 : Int))) (a3 ++ [(t, (1 : Int))]) else none else none else some a3
noncomputable def l0.b (K : Nat) : Lp M 0 := q24 (X K) 3 48 0 (q01 Tryz.f215 0) ⟨[3, 7, 8, 9], sh2c, [.list 367 z95 []]⟩ ⟨[3], (.own 0), [.list 367 z95 []]⟩ K [] (fun k x => l0.f K k x.1.2.1 x.1.2.2.1 x.1.2.2.2 x.2.1) (fun x r => ((), r, ())) fun k x => by
  rw [q0a, l0.f]
  try simp only [el]
  kernel_rfl
noncomputable def f (K : Nat) (a0 : List Int) : Option (List j4c) := l0.f K K a0 (↑a0.length : Int) (0 : Int) []
noncomputable def e (K : Nat) : En M := fnE (X K) 215 Tryz.func215 ⟨sh24, [], (.ty (.slice z95)), []⟩ [l0.b K] (fun x => f K x.1) (fun x r => (r, ())) fun x => by
  rw [q0a, f]
  try simp only [el]
  kernel_rfl
end q49
namespace q5z
noncomputable def X (K : Nat) : Fx M 0 := { hmx := mxd, nt := 46, cs := [q49.e K, q4b.e K, q0n.e K, q0d.e K, q1s.e K] }
noncomputable def l0.f (K : Nat) : Nat → Int → List j4c → Int → Int → List Int → Option (List Int)
  | 0, _, _, _, _, _ => none
  | k + 1, a0, a1, a2, a3, a4 => bif decide (a3 < a2) then bif decide ((0 : Int) ≤ a3) && true then a1[a3.toNat]?.bind fun t => (q0d.f K (IntKind.u64.wrap (IntKind.i64.wrap (t.1 - a0))) a4).bind fun t_1 => (q0d.f K (IntKind.u64.wrap (IntKind.i64.wrap (t.2 - (1 : Int)))) t_1).bind fun t_2 => l0.f K k (IntKind.i64.wrap (IntKind.i64.wrap (t.1 + t.2) + (1 : Int))) a1 a2 (IntKind.i64.wrap (a3 + (1 : Int))) t_2 else none else some a4
noncomputable def l0.b (K : Nat) : Lp M 0 := q24 (X K) 7 46 0 (q01 Tryz.f203 0) ⟨[4, 5, 18, 19, 20], (.cons (.ptr 0 0) (.cons (.ty yI) (.cons (.ty (.slice z95)) (.cons (.ty yI) (.ty yI))))), hs2d⟩ ⟨[4], (.ptr 0 0), hs2d⟩ K [] (fun k x => l0.f K k x.1.2.1 x.1.2.2.1 x.1.2.2.2.1 x.1.2.2.2.2 x.2.2.1) (fun x r => ((), (), r, ())) fun k x => by
  rw [q0a, l0.f]
  try simp only [el]
  kernel_rfl
noncomputable def f (K : Nat) (a0 : List Int) : Option (List Int) := (q49.f K a0).bind fun t => (q4b.f K).bind fun t_1 => (q0n.f K (2 : Int) t_1).bind fun t_2 => (q0d.f K (IntKind.u64.wrap (↑t.length : Int)) t_2).bind fun t_3 => (l0.f K K (0 : Int) t (↑t.length : Int) (0 : Int) t_3).bind fun t => q1s.f K t
noncomputable def e (K : Nat) : En M := fnE (X K) 203 Tryz.func203 ⟨sh24, [], sh0, []⟩ [l0.b K] (fun x => f K x.1) (fun x r => (r, ())) fun x => by
  rw [q0a, f]
  try simp only [el]
  kernel_rfl
end q5z
namespace q39
noncomputable def f (K : Nat) (a0 : Int) (a1 : List Int) (a2 : Int) : Option (List Int) := bif a2 == (0 : Int) then q5b.f K a0 a1 else bif a2 == (1 : Int) then q56.f K a1 else bif a2 == (2 : Int) then q5z.f K a1 else some []
noncomputable def e (K : Nat) : En M := fnE (m := 0) { hmx := mxd, nt := 21, cs := [q5b.e K, q56.e K, q5z.e K] } 152 Tryz.func152 ⟨(.cons (.ty yI) (.cons (.ty (.slice yI)) (.ty yI))), [], sh0, []⟩ [] (fun x => f K x.1.1 x.1.2.1 x.1.2.2) (fun x r => (r, ())) fun x => by
  rw [q0a, f]
  try simp only [el]
  kernel_rfl
end q39
namespace q5a
noncomputable def X (K : Nat) : Fx M 0 := { hmx := mxd, nt := 30, cs := [q23.e K, q39.e K] }
noncomputable def l0.f (K : Nat) : Nat → Int → List Int → Int → Int → Int → Int → Option (Int)
  | 0, _, _, _, _, _, _ => none
  | k + 1, a0, a1, a2, a3, a4, a5 => bif decide (a5 < (2 : Int)) then bif decide ((0 : Int) ≤ a5) then bif a5.toNat.blt (2 : Nat) then bif a5.toNat.beq (nat_lit 1) then (q39.f K a0 a1 a4).bind fun t => (q39.f K a0 a1 a2).bind fun t_1 => bif decide ((↑t.length : Int) < (↑t_1.length : Int)) then l0.f K k a0 a1 a4 a3 a4 (IntKind.i64.wrap (a5 + (1 : Int))) else l0.f K k a0 a1 a2 a3 a4 (IntKind.i64.wrap (a5 + (1 : Int))) else bif a5.toNat.beq (nat_lit 0) then (q39.f K a0 a1 a3).bind fun t => (q39.f K a0 a1 a2).bind fun t_1 => bif decide ((↑t.length : Int) < (↑t_1.length : Int)) then l0.f K k a0 a1 a3 a3 a4 (IntKind.i64.wrap (a5 + (1 : Int))) else l0.f K k a0 a1 a2 a3 a4 (IntKind.i64.wrap (a5 + (1 : Int))) else none else none else none else some a2
noncomputable def l0.b (K : Nat) : Lp M 0 := q24 (X K) 5 30 0 (q01 Tryz.f153 0) ⟨[0, 1, 5, 12, 13], (.cons (.ty yI) (.cons (.ty (.slice yI)) (.cons (.ty yI) (.cons (.agg (.cons (.ty yI) (.ty yI))) (.ty yI))))), []⟩ ⟨[5], (.ty yI), []⟩ K [] (fun k x => l0.f K k x.1.1 x.1.2.1 x.1.2.2.1 x.1.2.2.2.1.1 x.1.2.2.2.1.2 x.1.2.2.2.2) (fun x r => (r, ())) fun k x => by
  rw [q0a, l0.f]
  try simp only [el]
  kernel_rfl
noncomputable def f (K : Nat) (a0 : Int) (a1 : List Int) : Option (Int) := (q23.f K a0 a1).bind fun t => bif !t then some (-1 : Int) else l0.f K K a0 a1 (0 : Int) (1 : Int) (2 : Int) (0 : Int)
noncomputable def e (K : Nat) : En M := fnE (X K) 153 Tryz.func153 ⟨sh2a, [], (.ty yI), []⟩ [l0.b K] (fun x => f K x.1.1 x.1.2) (fun x r => (r, ())) fun x => by
  rw [q0a, f]
  try simp only [el]
  kernel_rfl
end q5a
namespace q8p
noncomputable def f (K : Nat) (a0 : List Int) (a1 : List Int) : Option (Bool) := some ((strOf a0).toList == (strOf a1).toList)
noncomputable def e (K : Nat) : En M := fnE (m := 0) { hmx := mxd, nt := 10, cs := [] } 209 Tryz.func209 ⟨sh2f, [], (.ty .bool), []⟩ [] (fun x => f K x.1.1 x.1.2) (fun x r => (r, ())) fun x => by
  rw [q0a, f]
  try simp only [el]
  kernel_rfl
end q8p
namespace q9b
noncomputable def X (K : Nat) : Fx M 1 := { hmx := mxd, nt := 80, cs := [q1k.e K, q1d.e K, q25.e K, q9j.e K, q6u.e K, q1q.e K, q5a.e K, q39.e K, q8p.e K], cp := [(2, [.bool], [23]), (10, [.bool], [67])] }
noncomputable def f (K : Nat) (a0 : Int) (a1 : List Int) (a2 : Int) : Option (List Int × Err × Int) := (q1k.f K).bind fun t => q1g (bif decide (a0 < (0 : Int)) then some true else some (decide (a0 > (4096 : Int)))) fun t => bif t then (q1d.f K (Err.no (1 : Int)) [a2]).bind fun t => some ([], t, a2) else (q25.f K).bind fun t => (q9j.f K a0 a1 a2).bind fun t => bif bif true then !t.2.1.isNil else t.2.1.isNil then (q6u.f K t.2.1).bind fun t => (q1d.f K (Err.no t) [a2]).bind fun t => some ([], t, a2) else (q1k.f K).bind fun t_1 => (q25.f K).bind fun t_2 => (q1q.f K (IntKind.i64.wrap (t.2.2 - a2)) a1 a2).bind fun t_3 => q1g (bif bif true then !t_3.2.1.isNil else t_3.2.1.isNil then some true else (q5a.f K a0 t.1).bind fun t_4 => (q39.f K a0 t.1 t_4).bind fun t => (q8p.f K t_3.1 t).bind fun t => some !t) fun t_4 => bif t_4 then (q1d.f K (Err.no (3 : Int)) [a2]).bind fun t => some ([], t, a2) else (q1q.f K (IntKind.i64.wrap (t.2.2 - a2)) a1 a2).bind fun t_5 => some (t.1, t_5.2.1, t_5.2.2)
noncomputable def e (K : Nat) : En M := fnE (X K) 181 Tryz.func181 ⟨sh2, [hh1], sh27, [hh1]⟩ [] (fun x => f K x.1.2 x.2.1.1 x.2.1.2) (fun x r => ((r.1, r.2.1), (x.2.1.1, r.2.2), ())) fun x => by
  rw [q0a, f]
  try simp only [el]
  kernel_rfl
end q9b
namespace q3t
noncomputable def f (K : Nat) (a0 : Int) (a1 : Err) (a2 : List Int) (a3 : Int) : Option (List Int × Err × Int) := bif bif true then !a1.isNil else a1.isNil then some ([], a1, a3) else (q9b.f K a0 a2 a3).bind fun t => (q02.f K t.2.1 a1).bind fun t_1 => some (t.1, t_1, t.2.2)
noncomputable def e (K : Nat) : En M := fnE (m := 2) { hmx := mxd, nt := 25, cs := [q9b.e K, q02.e K] } 129 Tryz.func129 ⟨sh2, [hh4, hh1], sh24, [hh4, hh1]⟩ [] (fun x => f K x.1.2 x.2.1.2 x.2.2.1.1 x.2.2.1.2) (fun x r => (r.1, ((), r.2.1), (x.2.2.1.1, r.2.2), ())) fun x => by
  rw [q0a, f]
  try simp only [el]
  kernel_rfl
end q3t
namespace q2c
noncomputable def X (K : Nat) : Fx M 2 := { hmx := mxd, nt := 45, cs := [q2k.e K, q17.e K, q3t.e K] }
noncomputable def l1.f (K : Nat) : Nat → Int → Int → Int → Err → List Int → Int → List (List Int) → Option (Err × Int × List (List Int))
  | 0, _, _, _, _, _, _, _ => none
  | k + 1, a1, a2, a3, a4, a5, a6, a13 => bif decide (a3 < a2) then (q3t.f K a1 a4 a5 a6).bind fun t => bif (a13.length + [t.1].length).ble (4000000 : Nat) then l1.f K k a1 a2 (IntKind.i64.wrap (a3 + (1 : Int))) t.2.1 a5 t.2.2 (a13 ++ [t.1]) else none else some (a4, a6, a13)
noncomputable def l1.b (K : Nat) : Lp M 2 := q24 (X K) 9 45 2 (q01 Tryz.f74 1) ⟨[0, 1, 2, 6, 7, 26, 27], sh30, hs31⟩ ⟨[0, 1, 6, 7], (.cons (.ptr 0 0) (.cons (.ty yI) (.cons (.ptr 2 0) (.ptr 3 0)))), hs31⟩ K [] (fun k (x : ((Unit × (Int × (Int × (Unit × (Unit × (Int × Int)))))) × ((Unit × Err) × (((List Int) × Int) × ((Bool × (Unit × (Unit × Unit))) × ((Bool × (Unit × (Unit × Unit))) × ((List q0l) × ((List (List Int)) × ((List Int) × ((List q0l) × ((List (List Int)) × ((List Int) × Unit)))))))))))) => l1.f K k x.1.2.2.1 x.1.2.2.2.2.2.1 x.1.2.2.2.2.2.2 x.2.1.2 x.2.2.1.1 x.2.2.1.2 x.2.2.2.2.2.2.2.2.2.1) (fun x r => (((), x.1.2.1, (), ()), ((), r.1), (x.2.2.1.1, r.2.1), x.2.2.2.1, x.2.2.2.2.1, x.2.2.2.2.2.1, x.2.2.2.2.2.2.1, x.2.2.2.2.2.2.2.1, x.2.2.2.2.2.2.2.2.1, r.2.2, x.2.2.2.2.2.2.2.2.2.2)) fun k (x : ((Unit × (Int × (Int × (Unit × (Unit × (Int × Int)))))) × ((Unit × Err) × (((List Int) × Int) × ((Bool × (Unit × (Unit × Unit))) × ((Bool × (Unit × (Unit × Unit))) × ((List q0l) × ((List (List Int)) × ((List Int) × ((List q0l) × ((List (List Int)) × ((List Int) × Unit)))))))))))) => by
  refine Eq.trans ?_ q0a.symm
  rw [l1.f]
  try simp only [el]
  kernel_rfl
noncomputable def l0.f (K : Nat) : Nat → Int → Int → Err → List Int → Int → List q0l → Option (Err × Int × List q0l)
  | 0, _, _, _, _, _, _ => none
  | k + 1, a2, a3, a4, a5, a6, a12 => bif decide (a3 < a2) then (q17.f K a4 a5 a6).bind fun t => bif (a12.length + [(t.1, (t.2.1, t.2.2.1), (t.2.2.2.1, t.2.2.2.2.1), t.2.2.2.2.2.1)].length).ble (4000000 : Nat) then l0.f K k a2 (IntKind.i64.wrap (a3 + (1 : Int))) t.2.2.2.2.2.2.1 a5 t.2.2.2.2.2.2.2 (a12 ++ [(t.1, (t.2.1, t.2.2.1), (t.2.2.2.1, t.2.2.2.2.1), t.2.2.2.2.2.1)]) else none else some (a4, a6, a12)
noncomputable def l0.b (K : Nat) : Lp M 2 := q24 (X K) 5 45 0 (q01 Tryz.f74 0) ⟨[0, 1, 2, 6, 7, 13, 14], sh30, hs31⟩ ⟨[0, 1, 2, 6, 7], (.cons (.ptr 0 0) (.cons (.ty yI) (.cons (.ty yI) (.cons (.ptr 2 0) (.ptr 3 0))))), hs31⟩ K [] (fun k (x : ((Unit × (Int × (Int × (Unit × (Unit × (Int × Int)))))) × ((Unit × Err) × (((List Int) × Int) × ((Bool × (Unit × (Unit × Unit))) × ((Bool × (Unit × (Unit × Unit))) × ((List q0l) × ((List (List Int)) × ((List Int) × ((List q0l) × ((List (List Int)) × ((List Int) × Unit)))))))))))) => l0.f K k x.1.2.2.2.2.2.1 x.1.2.2.2.2.2.2 x.2.1.2 x.2.2.1.1 x.2.2.1.2 x.2.2.2.2.2.2.2.2.1) (fun x r => (((), x.1.2.1, x.1.2.2.1, (), ()), ((), r.1), (x.2.2.1.1, r.2.1), x.2.2.2.1, x.2.2.2.2.1, x.2.2.2.2.2.1, x.2.2.2.2.2.2.1, x.2.2.2.2.2.2.2.1, r.2.2, x.2.2.2.2.2.2.2.2.2)) fun k (x : ((Unit × (Int × (Int × (Unit × (Unit × (Int × Int)))))) × ((Unit × Err) × (((List Int) × Int) × ((Bool × (Unit × (Unit × Unit))) × ((Bool × (Unit × (Unit × Unit))) × ((List q0l) × ((List (List Int)) × ((List Int) × ((List q0l) × ((List (List Int)) × ((List Int) × Unit)))))))))))) => by
  refine Eq.trans ?_ q0a.symm
  rw [l0.f]
  try simp only [el]
  kernel_rfl
noncomputable def f (K : Nat) (a0 : Int) (a1 : Int) (a2 : Err) (a3 : List Int) (a4 : Int) : Option (Bool × List q0l × List (List Int) × List Int × Err × Int) := (q2k.f K (1 : Int) a2 a3 a4).bind fun t => bif t.1 == (1 : Int) then (l0.f K K a0 (0 : Int) t.2.1 a3 t.2.2 []).bind fun t => (l1.f K K a1 a0 (0 : Int) t.1 a3 t.2.1 []).bind fun t_1 => (q3t.f K a0 t_1.1 a3 t_1.2.1).bind fun t_2 => some (true, t.2.2, t_1.2.2, t_2.1, t_2.2.1, t_2.2.2) else (q3t.f K a0 t.2.1 a3 t.2.2).bind fun t => some (false, [], [], t.1, t.2.1, t.2.2)
noncomputable def e (K : Nat) : En M := fnE (X K) 74 Tryz.func74 ⟨sh1e, [hh4, hh1], (.agg (.cons (.ty .bool) (.cons (.ty (.slice q15)) (.cons (.ty (.slice (.slice yI))) (.ty (.slice yI)))))), [hh4, hh1]⟩ [l0.b K, l1.b K] (fun x => f K x.1.2.1 x.1.2.2 x.2.1.2 x.2.2.1.1 x.2.2.1.2) (fun x r => ((r.1, r.2.1, r.2.2.1, r.2.2.2.1), ((), r.2.2.2.2.1), (x.2.2.1.1, r.2.2.2.2.2), ())) fun x => by
  rw [q0a, f]
  try simp only [el]
  kernel_rfl
end q2c
namespace q3p
noncomputable def f (K : Nat) (a0 : Err) (a1 : List Int) (a2 : Int) : Option (Err) := bif bif false then !a0.isNil else a0.isNil then (q2w.f K a1 a2).bind fun t => q02.f K t a0 else some a0
noncomputable def e (K : Nat) : En M := fnE (m := 2) { hmx := mxd, nt := 14, cs := [q2w.e K, q02.e K] } 23 Tryz.func23 ⟨(.ptr 0 0), [hh4, hh1], .unit, [hh4, hh1]⟩ [] (fun x => f K x.2.1.2 x.2.2.1.1 x.2.2.1.2) (fun x r => ((), ((), r), x.2.2)) fun x => by
  rw [q0a, f]
  try simp only [el]
  kernel_rfl
end q3p
namespace q2a
noncomputable def X (K : Nat) : Fx M 2 := { hmx := mxd, nt := 75, cs := [q1t.e K, q1p.e K, q02.e K, q20.e K, q3u.e K, q2c.e K, q3p.e K], alt := [70] }
noncomputable def l0.f (K : Nat) : Nat → Int → List Int → Int → Int → Int → Err → List q1l → List Int → Int → Option (Err × List q1l × Int)
  | 0, _, _, _, _, _, _, _, _, _ => none
  | k + 1, a0, a1, a2, a3, a9, a28, a31, a32, a33 => bif decide (a3 < a2) then bif decide ((0 : Int) ≤ a3) && true then a1[a3.toNat]?.bind fun t => (q2c.f K a9 a0 a28 a32 a33).bind fun t_1 => bif decide ((0 : Int) ≤ t) then bif (Int.toNat t).blt a31.length then a31[Int.toNat t]?.bind fun t_2 => l0.f K k a0 a1 a2 (IntKind.i64.wrap (a3 + (1 : Int))) a9 t_1.2.2.2.2.1 (a31.set (Int.toNat t) ((t_1.1, t_1.2.1, t_1.2.2.1), t_1.2.2.2.1)) a32 t_1.2.2.2.2.2 else none else none else none else some (a28, a31, a33)
noncomputable def l0.b (K : Nat) : Lp M 2 := q24 (X K) 11 75 0 (q01 Tryz.f21 0) ⟨[0, 3, 5, 8, 9, 12, 50, 51, 52], (.cons (.ptr 0 0) (.cons (.ty yI) (.cons (.ptr 2 0) (.cons (.ptr 3 0) (.cons (.ptr 4 0) (.cons (.ptr 5 0) (.cons (.ty (.slice yI)) (.cons (.ty yI) (.ty yI))))))))), [hh4, hh1, hh1a, .cells 83 0 (.cons (.ty .bool) (.cons (.own 6) (.cons (.ty .bool) (.cons (.ty yI) (.cons (.ty .bool) (.cons (.ty yI) (.cons (.ty yI) (.cons (.ty yI) (.cons (.ty yI) (.own 7)))))))))), .cells 83 0 (.cons (.ty .bool) (.cons (.ty (.slice q15)) (.cons (.ty .bool) (.cons (.ty yI) (.cons (.ty .bool) (.cons (.ty yI) (.cons (.ty yI) (.cons (.ty yI) (.cons (.ty yI) (.own 8)))))))))), .cells 65 0 (.cons (.ptr 9 0) (.ty .err)), .list 74 q15 [], .list 111 q3e [], .list 111 q3e [], hh1]⟩ ⟨[0, 8, 9, 12], (.cons (.ptr 0 0) (.cons (.ptr 2 0) (.cons (.ptr 3 0) (.ptr 4 0)))), [hh4, hh1, .cells 83 0 (.cons (.ty .bool) (.cons (.own 5) (.cons (.ty .bool) (.cons (.ty yI) (.cons (.ty .bool) (.cons (.ty yI) (.cons (.ty yI) (.cons (.ty yI) (.cons (.ty yI) (.own 6)))))))))), .cells 83 0 (.cons (.ty .bool) (.cons (.ty (.slice q15)) (.cons (.ty .bool) (.cons (.ty yI) (.cons (.ty .bool) (.cons (.ty yI) (.cons (.ty yI) (.cons (.ty yI) (.cons (.ty yI) (.own 7)))))))))), .cells 65 0 (.cons (.ptr 8 0) (.ty .err)), .list 74 q15 [], .list 111 q3e [], .list 111 q3e [], hh1]⟩ K [] (fun k (x : ((Unit × (Int × (Unit × (Unit × (Unit × (Unit × ((List Int) × (Int × Int)))))))) × ((Unit × Err) × (((List Int) × Int) × ((ByteArray × (Int × (Int × (List q1m)))) × ((Bool × (Unit × (Bool × (Int × (Bool × (Int × (Int × (Int × (Int × Unit))))))))) × ((Bool × ((List q0l) × (Bool × (Int × (Bool × (Int × (Int × (Int × (Int × Unit))))))))) × ((Unit × Err) × ((List q0l) × ((List q1l) × ((List q1l) × (((List Int) × Int) × Unit)))))))))))) => l0.f K k x.1.2.1 x.1.2.2.2.2.2.2.1 x.1.2.2.2.2.2.2.2.1 x.1.2.2.2.2.2.2.2.2 x.2.2.2.1.2.2.1 x.2.2.2.2.2.2.1.2 x.2.2.2.2.2.2.2.2.2.1 x.2.2.2.2.2.2.2.2.2.2.1.1 x.2.2.2.2.2.2.2.2.2.2.1.2) (fun x r => (((), (), (), ()), x.2.1, x.2.2.1, x.2.2.2.2.1, x.2.2.2.2.2.1, ((), r.1), x.2.2.2.2.2.2.2.1, x.2.2.2.2.2.2.2.2.1, r.2.1, (x.2.2.2.2.2.2.2.2.2.2.1.1, r.2.2), ())) fun k (x : ((Unit × (Int × (Unit × (Unit × (Unit × (Unit × ((List Int) × (Int × Int)))))))) × ((Unit × Err) × (((List Int) × Int) × ((ByteArray × (Int × (Int × (List q1m)))) × ((Bool × (Unit × (Bool × (Int × (Bool × (Int × (Int × (Int × (Int × Unit))))))))) × ((Bool × ((List q0l) × (Bool × (Int × (Bool × (Int × (Int × (Int × (Int × Unit))))))))) × ((Unit × Err) × ((List q0l) × ((List q1l) × ((List q1l) × (((List Int) × Int) × Unit)))))))))))) => by
  refine Eq.trans ?_ q0a.symm
  rw [l0.f]
  try simp only [el]
  kernel_rfl
noncomputable def f (K : Nat) (a1 : Int) (a2 : Int) (a3 : List q1m) (a4 : Bool) (a5 : Int) (a6 : Err) (a7 : List Int) (a8 : Int) : Option (Bool × List q0l × Bool × Int × Bool × Int × Int × Int × Int × List q1l × Err × Int) := bif decide ((↑a3.length : Int) ≤ (4000000 : Int)) && (↑a3.length : Int) == (↑a3.length : Int) && true && true && true then bif bif true then !a6.isNil else a6.isNil then some (false, [], false, (0 : Int), false, (0 : Int), (0 : Int), (0 : Int), (0 : Int), List.replicate (↑a3.length : Int).toNat ((false, [], []), []), a6, a8) else (q1t.f K a7 a8).elim ((q1p.f K a7 a8).bind fun t => bif bif true then !t.2.1.isNil else t.2.1.isNil then (q02.f K t.2.1 a6).bind fun t_1 => some (false, [], false, (0 : Int), false, (0 : Int), (0 : Int), (0 : Int), (0 : Int), List.replicate (↑a3.length : Int).toNat ((false, [], []), []), t_1, t.2.2) else none) fun t => bif bif true then !t.1.isNil else t.1.isNil then (q02.f K t.1 a6).bind fun t_1 => some (false, [], false, (0 : Int), false, (0 : Int), (0 : Int), (0 : Int), (0 : Int), List.replicate (↑a3.length : Int).toNat ((false, [], []), []), t_1, t.2.1) else (q20.f K a1 Err.nil t.2.2.1 t.2.2.2).bind fun t_1 => (q3u.f K a3 a4).bind fun t_2 => (l0.f K K a5 t_2 (↑t_2.length : Int) (0 : Int) a2 t_1.2.2.2.2.2.2.2.2.2.1 (List.replicate (↑a3.length : Int).toNat ((false, [], []), [])) t.2.2.1 t_1.2.2.2.2.2.2.2.2.2.2).bind fun t_3 => (q3p.f K t_3.1 t.2.2.1 t_3.2.2).bind fun t_4 => (q02.f K t_4 a6).bind fun t_5 => some (t_1.1, t_1.2.1, t_1.2.2.1, t_1.2.2.2.1, t_1.2.2.2.2.1, t_1.2.2.2.2.2.1, t_1.2.2.2.2.2.2.1, t_1.2.2.2.2.2.2.2.1, t_1.2.2.2.2.2.2.2.2.1, t_3.2.1, t_5, t.2.1) else none
noncomputable def e (K : Nat) : En M := fnE (X K) 21 Tryz.func21 ⟨(.cons (.ptr 0 0) (.cons (.agg (.cons (.ty .str) (.cons (.ty yI) (.cons (.ty yI) (.ty (.slice q2r)))))) (.cons (.ty .bool) (.ty yI)))), [hh4, hh1], (.agg (.cons (.ty .bool) (.cons (.ty (.slice q15)) (.cons (.ty .bool) (.cons (.ty yI) (.cons (.ty .bool) (.cons (.ty yI) (.cons (.ty yI) (.cons (.ty yI) (.cons (.ty yI) (.ty (.slice q3e)))))))))))), [hh4, hh1]⟩ [l0.b K] (fun (x : ((Unit × ((ByteArray × (Int × (Int × (List q1m)))) × (Bool × Int))) × ((Unit × Err) × (((List Int) × Int) × Unit)))) => f K x.1.2.1.2.1 x.1.2.1.2.2.1 x.1.2.1.2.2.2 x.1.2.2.1 x.1.2.2.2 x.2.1.2 x.2.2.1.1 x.2.2.1.2) (fun x r => ((r.1, r.2.1, r.2.2.1, r.2.2.2.1, r.2.2.2.2.1, r.2.2.2.2.2.1, r.2.2.2.2.2.2.1, r.2.2.2.2.2.2.2.1, r.2.2.2.2.2.2.2.2.1, r.2.2.2.2.2.2.2.2.2.1), ((), r.2.2.2.2.2.2.2.2.2.2.1), (x.2.2.1.1, r.2.2.2.2.2.2.2.2.2.2.2), ())) fun (x : ((Unit × ((ByteArray × (Int × (Int × (List q1m)))) × (Bool × Int))) × ((Unit × Err) × (((List Int) × Int) × Unit)))) => by
  refine Eq.trans ?_ q0a.symm
  rw [f]
  try simp only [el]
  kernel_rfl
end q2a
namespace q22
noncomputable def X (K : Nat) : Fx M 0 := { hmx := mxd, nt := 95, cs := [q8k.e K, q3z.e K, q4u.e K, q17.e K, q2a.e K, q20.e K, q3p.e K] }
noncomputable def l2.f (K : Nat) : Nat → List q0g → Int → Int → Err → List Int → Int → List LSum → Option (Err × Int × List LSum)
  | 0, _, _, _, _, _, _, _ => none
  | k + 1, a1, a2, a3, a4, a14, a15, a18 => bif decide (a3 < a2) then bif decide ((0 : Int) ≤ a3) && true then a1[a3.toNat]?.bind fun t => (q20.f K t.2 a4 a14 a15).bind fun t => bif (a18.length + [(t.1, t.2.1, t.2.2.1, t.2.2.2.1, (t.2.2.2.2.1, t.2.2.2.2.2.1), (t.2.2.2.2.2.2.1, t.2.2.2.2.2.2.2.1), t.2.2.2.2.2.2.2.2.1)].length).ble (4000000 : Nat) then l2.f K k a1 a2 (IntKind.i64.wrap (a3 + (1 : Int))) t.2.2.2.2.2.2.2.2.2.1 a14 t.2.2.2.2.2.2.2.2.2.2 (a18 ++ [(t.1, t.2.1, t.2.2.1, t.2.2.2.1, (t.2.2.2.2.1, t.2.2.2.2.2.1), (t.2.2.2.2.2.2.1, t.2.2.2.2.2.2.2.1), t.2.2.2.2.2.2.2.2.1)]) else none else none else some (a4, a15, a18)
noncomputable def l2.b (K : Nat) : Lp M 0 := q24 (X K) 16 95 4 (q01 Tryz.f6 2) ⟨[2, 3, 6, 7, 8, 9, 63, 64, 65], (.cons (.ptr 0 0) (.cons (.ptr 1 0) (.cons (.ptr 2 0) (.cons (.ptr 3 0) (.cons (.ty .bool) (.cons (.ptr 4 0) (.cons (.ty (.slice q2h)) (.cons (.ty yI) (.ty yI))))))))), hs32⟩ ⟨[2, 3, 6, 7, 8, 9], sh33, hs32⟩ K [] (fun k (x : ((Unit × (Unit × (Unit × (Unit × (Bool × (Unit × ((List q0g) × (Int × Int)))))))) × ((Unit × (Unit × Unit)) × ((Unit × (Unit × Unit)) × ((Unit × Err) × (((List Int) × ((List q0x) × (List q0g))) × ((Unit × (Unit × Unit)) × ((List Int) × ((List q0x) × ((List q0g) × ((List q0l) × ((List q06) × ((List LSum) × (((List Int) × Int) × ((List q0l) × ((List q06) × ((List LSum) × Unit))))))))))))))))) => l2.f K k x.1.2.2.2.2.2.2.1 x.1.2.2.2.2.2.2.2.1 x.1.2.2.2.2.2.2.2.2 x.2.2.2.1.2 x.2.2.2.2.2.2.2.2.2.2.2.2.1.1 x.2.2.2.2.2.2.2.2.2.2.2.2.1.2 x.2.2.2.2.2.2.2.2.2.2.2.2.2.2.2.1) (fun x r => (((), (), (), (), x.1.2.2.2.2.1, ()), ((), (), ()), ((), (), ()), ((), r.1), x.2.2.2.2.1, ((), (), ()), x.2.2.2.2.2.2.1, x.2.2.2.2.2.2.2.1, x.2.2.2.2.2.2.2.2.1, x.2.2.2.2.2.2.2.2.2.1, x.2.2.2.2.2.2.2.2.2.2.1, x.2.2.2.2.2.2.2.2.2.2.2.1, (x.2.2.2.2.2.2.2.2.2.2.2.2.1.1, r.2.1), x.2.2.2.2.2.2.2.2.2.2.2.2.2.1, x.2.2.2.2.2.2.2.2.2.2.2.2.2.2.1, r.2.2, ())) fun k (x : ((Unit × (Unit × (Unit × (Unit × (Bool × (Unit × ((List q0g) × (Int × Int)))))))) × ((Unit × (Unit × Unit)) × ((Unit × (Unit × Unit)) × ((Unit × Err) × (((List Int) × ((List q0x) × (List q0g))) × ((Unit × (Unit × Unit)) × ((List Int) × ((List q0x) × ((List q0g) × ((List q0l) × ((List q06) × ((List LSum) × (((List Int) × Int) × ((List q0l) × ((List q06) × ((List LSum) × Unit))))))))))))))))) => by
  refine Eq.trans ?_ q0a.symm
  rw [l2.f]
  try simp only [el]
  kernel_rfl
noncomputable def l1.f (K : Nat) : Nat → Bool → Int → List q0x → Int → Int → Err → List Int → Int → List q06 → Option (Err × Int × List q06)
  | 0, _, _, _, _, _, _, _, _, _ => none
  | k + 1, a0, a1, a2, a3, a4, a5, a15, a16, a18 => bif decide (a4 < a3) then bif decide ((0 : Int) ≤ a4) && true then a2[a4.toNat]?.bind fun t => (q2a.f K t.2.1 t.2.2.1 t.2.2.2 a0 a1 a5 a15 a16).bind fun t => bif (a18.length + [((t.1, t.2.1, t.2.2.1, t.2.2.2.1, (t.2.2.2.2.1, t.2.2.2.2.2.1), (t.2.2.2.2.2.2.1, t.2.2.2.2.2.2.2.1), t.2.2.2.2.2.2.2.2.1), t.2.2.2.2.2.2.2.2.2.1)].length).ble (4000000 : Nat) then l1.f K k a0 a1 a2 a3 (IntKind.i64.wrap (a4 + (1 : Int))) t.2.2.2.2.2.2.2.2.2.2.1 a15 t.2.2.2.2.2.2.2.2.2.2.2 (a18 ++ [((t.1, t.2.1, t.2.2.1, t.2.2.2.1, (t.2.2.2.2.1, t.2.2.2.2.2.1), (t.2.2.2.2.2.2.1, t.2.2.2.2.2.2.2.1), t.2.2.2.2.2.2.2.2.1), t.2.2.2.2.2.2.2.2.2.1)]) else none else none else some (a5, a16, a18)
noncomputable def l1.b (K : Nat) : Lp M 0 := q24 (X K) 11 95 2 (q01 Tryz.f6 1) ⟨[2, 3, 6, 7, 8, 9, 10, 45, 46, 47], (.cons (.ptr 0 0) (.cons (.ptr 1 0) (.cons (.ptr 2 0) (.cons (.ptr 3 0) (.cons (.ty .bool) (.cons (.ptr 4 0) (.cons (.ty yI) (.cons (.ty (.slice q3x)) (.cons (.ty yI) (.ty yI)))))))))), hs32⟩ ⟨[2, 3, 6, 7, 8, 9], sh33, hs32⟩ K [] (fun k (x : ((Unit × (Unit × (Unit × (Unit × (Bool × (Unit × (Int × ((List q0x) × (Int × Int))))))))) × ((Unit × (Unit × Unit)) × ((Unit × (Unit × Unit)) × ((Unit × Err) × (((List Int) × ((List q0x) × (List q0g))) × ((Unit × (Unit × Unit)) × ((List Int) × ((List q0x) × ((List q0g) × ((List q0l) × ((List q06) × ((List LSum) × (((List Int) × Int) × ((List q0l) × ((List q06) × ((List LSum) × Unit))))))))))))))))) => l1.f K k x.1.2.2.2.2.1 x.1.2.2.2.2.2.2.1 x.1.2.2.2.2.2.2.2.1 x.1.2.2.2.2.2.2.2.2.1 x.1.2.2.2.2.2.2.2.2.2 x.2.2.2.1.2 x.2.2.2.2.2.2.2.2.2.2.2.2.1.1 x.2.2.2.2.2.2.2.2.2.2.2.2.1.2 x.2.2.2.2.2.2.2.2.2.2.2.2.2.2.1) (fun x r => (((), (), (), (), x.1.2.2.2.2.1, ()), ((), (), ()), ((), (), ()), ((), r.1), x.2.2.2.2.1, ((), (), ()), x.2.2.2.2.2.2.1, x.2.2.2.2.2.2.2.1, x.2.2.2.2.2.2.2.2.1, x.2.2.2.2.2.2.2.2.2.1, x.2.2.2.2.2.2.2.2.2.2.1, x.2.2.2.2.2.2.2.2.2.2.2.1, (x.2.2.2.2.2.2.2.2.2.2.2.2.1.1, r.2.1), x.2.2.2.2.2.2.2.2.2.2.2.2.2.1, r.2.2, x.2.2.2.2.2.2.2.2.2.2.2.2.2.2.2)) fun k (x : ((Unit × (Unit × (Unit × (Unit × (Bool × (Unit × (Int × ((List q0x) × (Int × Int))))))))) × ((Unit × (Unit × Unit)) × ((Unit × (Unit × Unit)) × ((Unit × Err) × (((List Int) × ((List q0x) × (List q0g))) × ((Unit × (Unit × Unit)) × ((List Int) × ((List q0x) × ((List q0g) × ((List q0l) × ((List q06) × ((List LSum) × (((List Int) × Int) × ((List q0l) × ((List q06) × ((List LSum) × Unit))))))))))))))))) => by
  refine Eq.trans ?_ q0a.symm
  rw [l1.f]
  try simp only [el]
  kernel_rfl
noncomputable def l0.f (K : Nat) : Nat → Int → Int → Err → List Int → Int → List q0l → Option (Err × Int × List q0l)
  | 0, _, _, _, _, _, _ => none
  | k + 1, a2, a3, a4, a14, a15, a16 => bif decide (a3 < a2) then (q17.f K a4 a14 a15).bind fun t => bif (a16.length + [(t.1, (t.2.1, t.2.2.1), (t.2.2.2.1, t.2.2.2.2.1), t.2.2.2.2.2.1)].length).ble (4000000 : Nat) then l0.f K k a2 (IntKind.i64.wrap (a3 + (1 : Int))) t.2.2.2.2.2.2.1 a14 t.2.2.2.2.2.2.2 (a16 ++ [(t.1, (t.2.1, t.2.2.1), (t.2.2.2.1, t.2.2.2.2.1), t.2.2.2.2.2.1)]) else none else some (a4, a15, a16)
noncomputable def l0.b (K : Nat) : Lp M 0 := q24 (X K) 7 95 0 (q01 Tryz.f6 0) ⟨[2, 3, 6, 7, 8, 9, 10, 33, 34], (.cons (.ptr 0 0) (.cons (.ptr 1 0) (.cons (.ptr 2 0) (.cons (.ptr 3 0) (.cons (.ty .bool) (.cons (.ptr 4 0) (.cons (.ty yI) (.cons (.ty yI) (.ty yI))))))))), hs32⟩ ⟨[2, 3, 6, 7, 8, 9, 10], (.cons (.ptr 0 0) (.cons (.ptr 1 0) (.cons (.ptr 2 0) (.cons (.ptr 3 0) (.cons (.ty .bool) (.cons (.ptr 4 0) (.ty yI))))))), hs32⟩ K [] (fun k (x : ((Unit × (Unit × (Unit × (Unit × (Bool × (Unit × (Int × (Int × Int)))))))) × ((Unit × (Unit × Unit)) × ((Unit × (Unit × Unit)) × ((Unit × Err) × (((List Int) × ((List q0x) × (List q0g))) × ((Unit × (Unit × Unit)) × ((List Int) × ((List q0x) × ((List q0g) × ((List q0l) × ((List q06) × ((List LSum) × (((List Int) × Int) × ((List q0l) × ((List q06) × ((List LSum) × Unit))))))))))))))))) => l0.f K k x.1.2.2.2.2.2.2.2.1 x.1.2.2.2.2.2.2.2.2 x.2.2.2.1.2 x.2.2.2.2.2.2.2.2.2.2.2.2.1.1 x.2.2.2.2.2.2.2.2.2.2.2.2.1.2 x.2.2.2.2.2.2.2.2.2.2.2.2.2.1) (fun x r => (((), (), (), (), x.1.2.2.2.2.1, (), x.1.2.2.2.2.2.2.1), ((), (), ()), ((), (), ()), ((), r.1), x.2.2.2.2.1, ((), (), ()), x.2.2.2.2.2.2.1, x.2.2.2.2.2.2.2.1, x.2.2.2.2.2.2.2.2.1, x.2.2.2.2.2.2.2.2.2.1, x.2.2.2.2.2.2.2.2.2.2.1, x.2.2.2.2.2.2.2.2.2.2.2.1, (x.2.2.2.2.2.2.2.2.2.2.2.2.1.1, r.2.1), r.2.2, x.2.2.2.2.2.2.2.2.2.2.2.2.2.2)) fun k (x : ((Unit × (Unit × (Unit × (Unit × (Bool × (Unit × (Int × (Int × Int)))))))) × ((Unit × (Unit × Unit)) × ((Unit × (Unit × Unit)) × ((Unit × Err) × (((List Int) × ((List q0x) × (List q0g))) × ((Unit × (Unit × Unit)) × ((List Int) × ((List q0x) × ((List q0g) × ((List q0l) × ((List q06) × ((List LSum) × (((List Int) × Int) × ((List q0l) × ((List q06) × ((List LSum) × Unit))))))))))))))))) => by
  refine Eq.trans ?_ q0a.symm
  rw [l0.f]
  try simp only [el]
  kernel_rfl
noncomputable def f (K : Nat) (a0 : List Int) : Option (List Int × List q0x × List q0g × List q0l × List q06 × List LSum × Bool × Err) := (q8k.f K a0).bind fun t => (q3z.f K Err.nil t.1 t.2).bind fun t_1 => bif bif false then !t_1.2.2.2.2.1.isNil else t_1.2.2.2.2.1.isNil then (q4u.f K t_1.2.1).bind fun t_2 => (l0.f K K (↑t_1.1.length : Int) (0 : Int) t_1.2.2.2.2.1 t.1 t_1.2.2.2.2.2 []).bind fun t_3 => (l1.f K K t_1.2.2.2.1 t_2 t_1.2.1 (↑t_1.2.1.length : Int) (0 : Int) t_3.1 t.1 t_3.2.1 []).bind fun t_4 => (l2.f K K t_1.2.2.1 (↑t_1.2.2.1.length : Int) (0 : Int) t_4.1 t.1 t_4.2.1 []).bind fun t_5 => (q3p.f K t_5.1 t.1 t_5.2.1).bind fun t => bif bif true then !t.isNil else t.isNil then some ([], [], [], [], [], [], false, t) else some (t_1.1, t_1.2.1, t_1.2.2.1, t_3.2.2, t_4.2.2, t_5.2.2, t_1.2.2.2.1, Err.nil) else bif bif true then !t_1.2.2.2.2.1.isNil else t_1.2.2.2.2.1.isNil then some ([], [], [], [], [], [], false, t_1.2.2.2.2.1) else some (t_1.1, t_1.2.1, t_1.2.2.1, [], [], [], t_1.2.2.2.1, Err.nil)
noncomputable def e (K : Nat) : En M := fnE (X K) 6 Tryz.func6 ⟨sh0, [], (.cons (.agg (.cons (.ty (.slice yI)) (.cons (.ty (.slice q3x)) (.ty (.slice q2h))))) (.cons (.agg (.cons (.ty (.slice q15)) (.cons (.ty (.slice q4c)) (.ty (.slice ySum))))) (.cons (.ty .bool) (.ty .err)))), []⟩ [l0.b K, l1.b K, l2.b K] (fun x => f K x.1) (fun x r => (((r.1, r.2.1, r.2.2.1), (r.2.2.2.1, r.2.2.2.2.1, r.2.2.2.2.2.1), r.2.2.2.2.2.2.1, r.2.2.2.2.2.2.2), ())) fun x => by
  rw [q0a, f]
  try simp only [el]
  kernel_rfl
end q22
namespace q58
noncomputable def f (K : Nat) : Option (List Int × List q0x × List q0g) := some ([], [(ByteArray.mk #[(109 : UInt8), (97 : UInt8), (105 : UInt8), (110 : UInt8)], (0 : Int), (2 : Int), [([((1 : Int), (1 : Int), (0 : Int), (0 : Int), (5 : Int), [])], (3 : Int), (1 : Int), (0 : Int), (0 : Int))])], [])
noncomputable def e (K : Nat) : En M := fnE (m := 0) { hmx := mxd, nt := 9, cs := [] } 25 Tryz.func25 ⟨.unit, [], sh13, []⟩ [] (fun x => f K) (fun x r => ((r.1, r.2.1, r.2.2), ())) fun x => by
  rw [q0a, f]
  try simp only [el]
  kernel_rfl
end q58
namespace q6m
noncomputable def f (K : Nat) : Option (Unit) := some ()
noncomputable def e (K : Nat) : En M := fnE (m := 0) { hmx := mxd, nt := 12, cs := [] } 111 Tryz.func111 ⟨shb, [], shb, []⟩ [] (fun x => f K) (fun x r => x) fun x => by
  rw [q0a, f]
  try simp only [el]
  kernel_rfl
end q6m
namespace q50
noncomputable def f (K : Nat) (a5 : List Int) : Option (List Int) := bif ((0 : Nat) + a5.length).ble (4000000 : Nat) then some ([] ++ a5) else none
noncomputable def e (K : Nat) : En M := fnE (m := 0) { hmx := mxd, nt := 18, cs := [] } 112 Tryz.func112 ⟨sh7, [], sh7, []⟩ [] (fun x => f K x.1.2.2.2.2.2) (fun x r => ((x.1.1, x.1.2.1, x.1.2.2.1, x.1.2.2.2.1, x.1.2.2.2.2.1, r), ())) fun x => by
  rw [q0a, f]
  try simp only [el]
  kernel_rfl
end q50
namespace q6c
noncomputable def X (K : Nat) : Fx M 0 := { hmx := mxd, nt := 62, cs := [q6m.e K, q50.e K], rf := [(10, ⟨[1, 2, 3, 4, 5], sh34, [.cells 144 0 sh19, .cells 78 0 sh10, .cells 78 0 sh11, hh1b, .list 106 q2r [], .list 106 q2r []]⟩)] }
noncomputable def l1.f (K : Nat) : Nat → Int → Int → List q1m → List q3n → Option (List q3n)
  | 0, _, _, _, _ => none
  | k + 1, a0, a1, a5, a18 => bif decide ((0 : Int) ≤ a0) && true then a5[a0.toNat]?.bind fun t => bif decide (a1 < (↑(List.length t.1) : Int)) then bif decide ((0 : Int) ≤ a0) && true then a5[a0.toNat]?.bind fun t => bif decide ((0 : Int) ≤ a1) && true then t.1[a1.toNat]?.bind fun t => (q50.f K t.2.2.2.2.2).bind fun t_1 => bif (a18.length + [(t.1, t.2.1, t.2.2.1, t.2.2.2.1, t.2.2.2.2.1, t_1)].length).ble (4000000 : Nat) then l1.f K k a0 (IntKind.i64.wrap (a1 + (1 : Int))) a5 (a18 ++ [(t.1, t.2.1, t.2.2.1, t.2.2.2.1, t.2.2.2.2.1, t_1)]) else none else none else none else some a18 else none
noncomputable def l1.b (K : Nat) : Lp M 0 := q24 (X K) 7 62 2 (q01 Tryz.f58 1) ⟨[1, 2, 3, 4, 5, 6], (.cons (.ptr 0 0) (.cons (.ptr 1 0) (.cons (.ptr 2 0) (.cons (.ty yI) (.cons (.ptr 3 0) (.ty yI)))))), hs35⟩ ⟨[1, 2, 3, 4, 5], sh34, hs35⟩ K [] (fun k x => l1.f K k x.1.2.2.2.1 x.1.2.2.2.2.2 x.2.1.2.2.2 x.2.2.2.2.2.2.2.1) (fun x r => (((), (), (), x.1.2.2.2.1, ()), x.2.1, x.2.2.1, x.2.2.2.1, x.2.2.2.2.1, x.2.2.2.2.2.1, x.2.2.2.2.2.2.1, r, ())) fun k x => by
  rw [q0a, l1.f]
  try simp only [el]
  kernel_rfl
noncomputable def l0.f (K : Nat) : Nat → Int → List q1m → List q1m → Option (List q1m)
  | 0, _, _, _ => none
  | k + 1, a0, a4, a12 => bif decide (a0 < (↑a4.length : Int)) then bif decide ((0 : Int) ≤ a0) && true then a4[a0.toNat]?.bind fun t => (q6m.f K).bind fun t_1 => (l1.f K K a0 (0 : Int) a4 []).bind fun t_2 => bif (a12.length + [(t_2, t.2.1, t.2.2.1, t.2.2.2.1, t.2.2.2.2)].length).ble (4000000 : Nat) then l0.f K k (IntKind.i64.wrap (a0 + (1 : Int))) a4 (a12 ++ [(t_2, t.2.1, t.2.2.1, t.2.2.2.1, t.2.2.2.2)]) else none else none else some a12
noncomputable def l0.b (K : Nat) : Lp M 0 := q24 (X K) 3 62 0 (q01 Tryz.f58 0) ⟨[1, 2, 3, 4], sh36, [.cells 144 0 sh19, .cells 78 0 sh37, .cells 78 0 sh10, .list 106 q2r [], .list 106 q2r []]⟩ ⟨[2, 3], sh1c, hs38⟩ K [l1.b K] (fun k x => l0.f K k x.1.2.2.2 x.2.1.2.2.2 x.2.2.2.2.2.1) (fun x r => (((), ()), x.2.2.1, x.2.2.2.1, x.2.2.2.2.1, r, ())) fun k x => by
  rw [q0a, l0.f]
  try simp only [el]
  kernel_rfl
noncomputable def f (K : Nat) (a3 : List q1m) : Option (List q1m) := l0.f K K (0 : Int) a3 []
noncomputable def e (K : Nat) : En M := fnE (X K) 58 Tryz.func58 ⟨shf, [], shf, []⟩ [l0.b K, l1.b K] (fun x => f K x.1.2.2.2) (fun x r => ((x.1.1, x.1.2.1, x.1.2.2.1, r), ())) fun x => by
  rw [q0a, f]
  try simp only [el]
  kernel_rfl
end q6c
namespace q7f
noncomputable def X (K : Nat) : Fx M 0 := { hmx := mxd, nt := 55, cs := [q6c.e K] }
noncomputable def l1.f (K : Nat) : Nat → Int → List q0g → List q0g → Option (List q0g)
  | 0, _, _, _ => none
  | k + 1, a0, a3, a9 => bif decide (a0 < (↑a3.length : Int)) then bif decide ((0 : Int) ≤ a0) && true then a3[a0.toNat]?.bind fun t => bif decide ((0 : Int) ≤ a0) && true then a3[a0.toNat]?.bind fun t_1 => bif (a9.length + [(t.1, t_1.2)].length).ble (4000000 : Nat) then l1.f K k (IntKind.i64.wrap (a0 + (1 : Int))) a3 (a9 ++ [(t.1, t_1.2)]) else none else none else none else some a9
noncomputable def l1.b (K : Nat) : Lp M 0 := q24 (X K) 7 55 2 (q01 Tryz.f14 1) ⟨[1, 2, 3, 5], sh36, hs39⟩ ⟨[2, 3], sh1c, hs3a⟩ K [] (fun k x => l1.f K k x.1.2.2.2 x.2.1.2.2 x.2.2.2.2.2.2.2.2.2.1) (fun x r => (((), ()), ((), (), ()), ((), (), ()), x.2.2.2.2.1, x.2.2.2.2.2.1, x.2.2.2.2.2.2.1, x.2.2.2.2.2.2.2.1, x.2.2.2.2.2.2.2.2.1, r, ())) fun k x => by
  rw [q0a, l1.f]
  try simp only [el]
  kernel_rfl
noncomputable def l0.f (K : Nat) : Nat → Int → List q0x → List q0x → Option (List q0x)
  | 0, _, _, _ => none
  | k + 1, a0, a2, a8 => bif decide (a0 < (↑a2.length : Int)) then bif decide ((0 : Int) ≤ a0) && true then a2[a0.toNat]?.bind fun t => (q6c.f K t.2.2.2).bind fun t_1 => bif (a8.length + [(t.1, t.2.1, t.2.2.1, t_1)].length).ble (4000000 : Nat) then l0.f K k (IntKind.i64.wrap (a0 + (1 : Int))) a2 (a8 ++ [(t.1, t.2.1, t.2.2.1, t_1)]) else none else none else some a8
noncomputable def l0.b (K : Nat) : Lp M 0 := q24 (X K) 3 55 0 (q01 Tryz.f14 0) ⟨[1, 2, 3, 4], sh36, hs39⟩ ⟨[1, 2, 3], (.cons (.ptr 0 0) (.cons (.ptr 1 0) (.ptr 2 0))), hs39⟩ K [] (fun k x => l0.f K k x.1.2.2.2 x.2.1.2.1 x.2.2.2.2.2.2.2.2.1) (fun x r => (((), (), ()), x.2.1, ((), (), ()), ((), (), ()), x.2.2.2.2.1, x.2.2.2.2.2.1, x.2.2.2.2.2.2.1, x.2.2.2.2.2.2.2.1, r, x.2.2.2.2.2.2.2.2.2)) fun k x => by
  rw [q0a, l0.f]
  try simp only [el]
  kernel_rfl
noncomputable def f (K : Nat) (a0 : List Int) (a1 : List q0x) (a2 : List q0g) : Option (List Int × List q0x × List q0g) := bif ((0 : Nat) + a0.length).ble (4000000 : Nat) then (l0.f K K (0 : Int) a1 []).bind fun t => (l1.f K K (0 : Int) a2 []).bind fun t_1 => some ([] ++ a0, t, t_1) else none
noncomputable def e (K : Nat) : En M := fnE (X K) 14 Tryz.func14 ⟨sh13, [], sh13, []⟩ [l0.b K, l1.b K] (fun x => f K x.1.1 x.1.2.1 x.1.2.2) (fun x r => ((r.1, r.2.1, r.2.2), ())) fun x => by
  rw [q0a, f]
  try simp only [el]
  kernel_rfl
end q7f
namespace q2j
noncomputable def f (K : Nat) (a0 : List Int) (a1 : List Int) : Option (List Int) := bif (a1.length + a0.length).ble (4000000 : Nat) then some (a1 ++ a0) else none
noncomputable def e (K : Nat) : En M := fnE (m := 2) { hmx := mxd, nt := 15, cs := [] } 34 Tryz.func34 ⟨(.cons (.ptr 0 0) (.ty (.slice (.int .u8)))), hs2d, .unit, hs2e⟩ [] (fun x => f K x.1.2 x.2.2.1) (fun x r => ((), (), (), r, ())) fun x => by
  rw [q0a, f]
  try simp only [el]
  kernel_rfl
end q2j
namespace q1u
noncomputable def f (K : Nat) (a0 : Int) (a1 : List Int) : Option (List Int) := q0d.f K (IntKind.u64.wrap (↑(BitVec.ofInt (64 : Nat) (IntKind.u64.wrap (IntKind.u64.wrap a0 * (2 : Int) ^ (1 : Nat))) ^^^ BitVec.ofInt (64 : Nat) (IntKind.u64.wrap (a0.fdiv ((2 : Int) ^ (63 : Nat))))).toNat : Int)) a1
noncomputable def e (K : Nat) : En M := fnE (m := 2) { hmx := mxd, nt := 13, cs := [q0d.e K] } 78 Tryz.func78 ⟨sh2, hs2d, .unit, hs2e⟩ [] (fun x => f K x.1.2 x.2.2.1) (fun x r => ((), (), (), r, ())) fun x => by
  rw [q0a, f]
  try simp only [el]
  kernel_rfl
end q1u
namespace q1o
noncomputable def f (K : Nat) (a0 : List Int) (a1 : List Int) : Option (List Int) := (q0d.f K (IntKind.u64.wrap (↑a0.length : Int)) a1).bind fun t => q2j.f K a0 t
noncomputable def e (K : Nat) : En M := fnE (m := 2) { hmx := mxd, nt := 12, cs := [q0d.e K, q2j.e K] } 37 Tryz.func37 ⟨(.cons (.ptr 0 0) (.ty (.slice (.int .u8)))), hs2d, .unit, hs2e⟩ [] (fun x => f K x.1.2 x.2.2.1) (fun x r => ((), (), (), r, ())) fun x => by
  rw [q0a, f]
  try simp only [el]
  kernel_rfl
end q1o
namespace q3y
noncomputable def X (K : Nat) : Fx M 2 := { hmx := mxd, nt := 68, cs := [q6w.e K, q0n.e K, q0d.e K, q1u.e K] }
noncomputable def l0.f (K : Nat) : Nat → List Int → Int → Int → List Int → Option (List Int)
  | 0, _, _, _, _ => none
  | k + 1, a0, a1, a2, a3 => bif decide (a2 < a1) then bif decide ((0 : Int) ≤ a2) && true then a0[a2.toNat]?.bind fun t => (q0d.f K (IntKind.u64.wrap t) a3).bind fun t => l0.f K k a0 a1 (IntKind.i64.wrap (a2 + (1 : Int))) t else none else some a3
noncomputable def l0.b (K : Nat) : Lp M 2 := q24 (X K) 15 68 1 (q01 Tryz.f132 0) ⟨[0, 57, 58, 59], (.cons (.ptr 0 0) (.cons (.ty (.slice yI)) (.cons (.ty yI) (.ty yI)))), hs2e⟩ ⟨[], .unit, hs2e⟩ K [] (fun k x => l0.f K k x.1.2.1 x.1.2.2.1 x.1.2.2.2 x.2.2.2.1) (fun x r => ((), (), (), r, ())) fun k x => by
  rw [q0a, l0.f]
  try simp only [el]
  kernel_rfl
noncomputable def f (K : Nat) (a0 : Int) (a1 : Int) (a2 : Int) (a3 : Int) (a4 : Int) (a5 : List Int) (a6 : List Int) : Option (List Int) := (q6w.f K a0).bind fun t => (q0n.f K (IntKind.u8.wrap a0) a6).bind fun t_1 => bif t.1 then (q0d.f K (IntKind.u64.wrap a1) t_1).bind fun t_2 => bif t.2.1 then (q0d.f K (IntKind.u64.wrap a2) t_2).bind fun t_3 => bif t.2.2.1 then (q0d.f K (IntKind.u64.wrap a3) t_3).bind fun t => bif a0 == (1 : Int) then q1u.f K a4 t else bif a0 == (17 : Int) then (q0d.f K (IntKind.u64.wrap (↑a5.length : Int)) t).bind fun t => l0.f K K a5 (↑a5.length : Int) (0 : Int) t else some t else bif a0 == (1 : Int) then q1u.f K a4 t_3 else bif a0 == (17 : Int) then (q0d.f K (IntKind.u64.wrap (↑a5.length : Int)) t_3).bind fun t => l0.f K K a5 (↑a5.length : Int) (0 : Int) t else some t_3 else bif t.2.2.1 then (q0d.f K (IntKind.u64.wrap a3) t_2).bind fun t => bif a0 == (1 : Int) then q1u.f K a4 t else bif a0 == (17 : Int) then (q0d.f K (IntKind.u64.wrap (↑a5.length : Int)) t).bind fun t => l0.f K K a5 (↑a5.length : Int) (0 : Int) t else some t else bif a0 == (1 : Int) then q1u.f K a4 t_2 else bif a0 == (17 : Int) then (q0d.f K (IntKind.u64.wrap (↑a5.length : Int)) t_2).bind fun t => l0.f K K a5 (↑a5.length : Int) (0 : Int) t else some t_2 else bif t.2.1 then (q0d.f K (IntKind.u64.wrap a2) t_1).bind fun t_2 => bif t.2.2.1 then (q0d.f K (IntKind.u64.wrap a3) t_2).bind fun t => bif a0 == (1 : Int) then q1u.f K a4 t else bif a0 == (17 : Int) then (q0d.f K (IntKind.u64.wrap (↑a5.length : Int)) t).bind fun t => l0.f K K a5 (↑a5.length : Int) (0 : Int) t else some t else bif a0 == (1 : Int) then q1u.f K a4 t_2 else bif a0 == (17 : Int) then (q0d.f K (IntKind.u64.wrap (↑a5.length : Int)) t_2).bind fun t => l0.f K K a5 (↑a5.length : Int) (0 : Int) t else some t_2 else bif t.2.2.1 then (q0d.f K (IntKind.u64.wrap a3) t_1).bind fun t => bif a0 == (1 : Int) then q1u.f K a4 t else bif a0 == (17 : Int) then (q0d.f K (IntKind.u64.wrap (↑a5.length : Int)) t).bind fun t => l0.f K K a5 (↑a5.length : Int) (0 : Int) t else some t else bif a0 == (1 : Int) then q1u.f K a4 t_1 else bif a0 == (17 : Int) then (q0d.f K (IntKind.u64.wrap (↑a5.length : Int)) t_1).bind fun t => l0.f K K a5 (↑a5.length : Int) (0 : Int) t else some t_1
noncomputable def e (K : Nat) : En M := fnE (X K) 132 Tryz.func132 ⟨(.cons (.ptr 0 0) (.agg (.cons (.ty yI) (.cons (.ty yI) (.cons (.ty yI) (.cons (.ty yI) (.cons (.ty yI) (.ty (.slice yI))))))))), hs2d, .unit, hs2e⟩ [l0.b K] (fun x => f K x.1.2.1 x.1.2.2.1 x.1.2.2.2.1 x.1.2.2.2.2.1 x.1.2.2.2.2.2.1 x.1.2.2.2.2.2.2 x.2.2.1) (fun x r => ((), (), (), r, ())) fun x => by
  rw [q0a, f]
  try simp only [el]
  kernel_rfl
end q3y
namespace q7u
noncomputable def f (K : Nat) (a0 : Int) (a1 : Int) (a2 : Int) (a3 : Int) (a4 : List Int) : Option (List Int) := (q0n.f K (IntKind.u8.wrap a0) a4).bind fun t => bif a0 == (1 : Int) then q0d.f K (IntKind.u64.wrap a2) t else bif a0 == (2 : Int) then (q0d.f K (IntKind.u64.wrap a1) t).bind fun t => (q0d.f K (IntKind.u64.wrap a2) t).bind fun t => q0d.f K (IntKind.u64.wrap a3) t else bif a0 == (3 : Int) then q0d.f K (IntKind.u64.wrap a1) t else some t
noncomputable def e (K : Nat) : En M := fnE (m := 2) { hmx := mxd, nt := 42, cs := [q0n.e K, q0d.e K] } 133 Tryz.func133 ⟨(.cons (.ptr 0 0) (.agg (.cons (.ty yI) (.cons (.ty yI) (.cons (.ty yI) (.ty yI)))))), hs2d, .unit, hs2e⟩ [] (fun x => f K x.1.2.1 x.1.2.2.1 x.1.2.2.2.1 x.1.2.2.2.2 x.2.2.1) (fun x r => ((), (), (), r, ())) fun x => by
  rw [q0a, f]
  try simp only [el]
  kernel_rfl
end q7u
namespace q2v
noncomputable def X (K : Nat) : Fx M 2 := { hmx := mxd, nt := 58, cs := [q1o.e K, q0d.e K, q3y.e K, q7u.e K] }
noncomputable def l1.f (K : Nat) : Nat → List q3n → Int → Int → List Int → Option (List Int)
  | 0, _, _, _, _ => none
  | k + 1, a3, a4, a5, a11 => bif decide (a5 < a4) then bif decide ((0 : Int) ≤ a5) && true then a3[a5.toNat]?.bind fun t => (q3y.f K t.1 t.2.1 t.2.2.1 t.2.2.2.1 t.2.2.2.2.1 t.2.2.2.2.2 a11).bind fun t => l1.f K k a3 a4 (IntKind.i64.wrap (a5 + (1 : Int))) t else none else some a11
noncomputable def l1.b (K : Nat) : Lp M 2 := q24 (X K) 10 58 2 (q01 Tryz.f79 1) ⟨[0, 5, 30, 31, 32, 43, 44, 45], (.cons (.ptr 0 0) (.cons (.ptr 2 0) (.cons (.ty (.slice q2r)) (.cons (.ty yI) (.cons (.ty yI) (.cons (.ty (.slice q6t)) (.cons (.ty yI) (.ty yI)))))))), [hh3b, .dead, hh1b, .list 5 (.int .u8) []]⟩ ⟨[0, 5, 30, 31, 32], (.cons (.ptr 0 0) (.cons (.ptr 2 0) (.cons (.ty (.slice q2r)) (.cons (.ty yI) (.ty yI))))), [hh3b, .dead, hh1b, .list 5 (.int .u8) []]⟩ K [] (fun k x => l1.f K k x.1.2.2.2.2.2.1 x.1.2.2.2.2.2.2.1 x.1.2.2.2.2.2.2.2 x.2.2.2.2.1) (fun x r => (((), (), x.1.2.2.1, x.1.2.2.2.1, x.1.2.2.2.2.1), (), (), x.2.2.2.1, r, ())) fun k x => by
  rw [q0a, l1.f]
  try simp only [el]
  kernel_rfl
noncomputable def l0.f (K : Nat) : Nat → List q1m → Int → Int → List Int → Option (List Int)
  | 0, _, _, _, _ => none
  | k + 1, a0, a1, a2, a3 => bif decide (a2 < a1) then bif decide ((0 : Int) ≤ a2) && true then a0[a2.toNat]?.bind fun t => (q0d.f K (IntKind.u64.wrap (↑(List.length t.1) : Int)) a3).bind fun t_1 => (l1.f K K t.1 (↑(List.length t.1) : Int) (0 : Int) t_1).bind fun t_2 => (q7u.f K t.2.1 t.2.2.1 t.2.2.2.1 t.2.2.2.2 t_2).bind fun t => l0.f K k a0 a1 (IntKind.i64.wrap (a2 + (1 : Int))) t else none else some a3
noncomputable def l0.b (K : Nat) : Lp M 2 := q24 (X K) 6 58 0 (q01 Tryz.f79 0) ⟨[0, 30, 31, 32], (.cons (.ptr 0 0) (.cons (.ty (.slice q2r)) (.cons (.ty yI) (.ty yI)))), hs2e⟩ ⟨[], .unit, hs2e⟩ K [l1.b K] (fun k x => l0.f K k x.1.2.1 x.1.2.2.1 x.1.2.2.2 x.2.2.2.1) (fun x r => ((), (), (), r, ())) fun k x => by
  rw [q0a, l0.f]
  try simp only [el]
  kernel_rfl
noncomputable def f (K : Nat) (a0 : ByteArray) (a1 : Int) (a2 : Int) (a3 : List q1m) (a4 : List Int) : Option (List Int) := bif a0.size.ble (4000000 : Nat) then (q1o.f K (bytesOf a0) a4).bind fun t => (q0d.f K (IntKind.u64.wrap a1) t).bind fun t => (q0d.f K (IntKind.u64.wrap a2) t).bind fun t => (q0d.f K (IntKind.u64.wrap (↑a3.length : Int)) t).bind fun t => l0.f K K a3 (↑a3.length : Int) (0 : Int) t else none
noncomputable def e (K : Nat) : En M := fnE (X K) 79 Tryz.func79 ⟨(.cons (.ptr 0 0) (.agg (.cons (.ty .str) (.cons (.ty yI) (.cons (.ty yI) (.ty (.slice q2r))))))), hs2d, .unit, hs2e⟩ [l0.b K, l1.b K] (fun x => f K x.1.2.1 x.1.2.2.1 x.1.2.2.2.1 x.1.2.2.2.2 x.2.2.1) (fun x r => ((), (), (), r, ())) fun x => by
  rw [q0a, f]
  try simp only [el]
  kernel_rfl
end q2v
namespace q2o
noncomputable def X (K : Nat) : Fx M 0 := { hmx := mxd, nt := 82, cs := [q2g.e K, q4b.e K, q2j.e K, q0d.e K, q1u.e K, q2v.e K, q1o.e K, q1s.e K] }
noncomputable def l2.f (K : Nat) : Nat → List q0g → Int → Int → List Int → Option (List Int)
  | 0, _, _, _, _ => none
  | k + 1, a0, a1, a2, a3 => bif decide (a2 < a1) then bif decide ((0 : Int) ≤ a2) && true then a0[a2.toNat]?.bind fun t => bif (ByteArray.size t.1).ble (4000000 : Nat) then (q1o.f K (bytesOf t.1) a3).bind fun t_1 => (q0d.f K (IntKind.u64.wrap t.2) t_1).bind fun t => l2.f K k a0 a1 (IntKind.i64.wrap (a2 + (1 : Int))) t else none else none else some a3
noncomputable def l2.b (K : Nat) : Lp M 0 := q24 (X K) 20 82 4 (q01 Tryz.f24 2) ⟨[5, 63, 64, 65], (.cons (.ptr 0 0) (.cons (.ty (.slice q2h)) (.cons (.ty yI) (.ty yI)))), hs2d⟩ ⟨[5], (.ptr 0 0), hs2d⟩ K [] (fun k x => l2.f K k x.1.2.1 x.1.2.2.1 x.1.2.2.2 x.2.2.1) (fun x r => ((), (), r, ())) fun k x => by
  rw [q0a, l2.f]
  try simp only [el]
  kernel_rfl
noncomputable def l1.f (K : Nat) : Nat → List q0x → Int → Int → List Int → Option (List Int)
  | 0, _, _, _, _ => none
  | k + 1, a0, a1, a2, a6 => bif decide (a2 < a1) then bif decide ((0 : Int) ≤ a2) && true then a0[a2.toNat]?.bind fun t => (q2v.f K t.1 t.2.1 t.2.2.1 t.2.2.2 a6).bind fun t => l1.f K k a0 a1 (IntKind.i64.wrap (a2 + (1 : Int))) t else none else some a6
noncomputable def l1.b (K : Nat) : Lp M 0 := q24 (X K) 14 82 2 (q01 Tryz.f24 1) ⟨[1, 5, 46, 47, 48], sh3c, hs3d⟩ ⟨[1, 5], sh1c, hs3d⟩ K [] (fun k x => l1.f K k x.1.2.2.1 x.1.2.2.2.1 x.1.2.2.2.2 x.2.2.2.1) (fun x r => (((), ()), x.2.1, (), r, ())) fun k x => by
  rw [q0a, l1.f]
  try simp only [el]
  kernel_rfl
noncomputable def l0.f (K : Nat) : Nat → List Int → Int → Int → List Int → Option (List Int)
  | 0, _, _, _, _ => none
  | k + 1, a0, a1, a2, a6 => bif decide (a2 < a1) then bif decide ((0 : Int) ≤ a2) && true then a0[a2.toNat]?.bind fun t => (q1u.f K t a6).bind fun t => l0.f K k a0 a1 (IntKind.i64.wrap (a2 + (1 : Int))) t else none else some a6
noncomputable def l0.b (K : Nat) : Lp M 0 := q24 (X K) 8 82 0 (q01 Tryz.f24 0) ⟨[1, 5, 29, 30, 31], (.cons (.ptr 0 0) (.cons (.ptr 1 0) (.cons (.ty (.slice yI)) (.cons (.ty yI) (.ty yI))))), hs3d⟩ ⟨[1, 5], sh1c, hs3d⟩ K [] (fun k x => l0.f K k x.1.2.2.1 x.1.2.2.2.1 x.1.2.2.2.2 x.2.2.2.1) (fun x r => (((), ()), x.2.1, (), r, ())) fun k x => by
  rw [q0a, l0.f]
  try simp only [el]
  kernel_rfl
noncomputable def f (K : Nat) (a0 : List Int) (a1 : List q0x) (a2 : List q0g) : Option (List Int × Err) := (q2g.f K a0 a1 a2).bind fun t => bif bif true then !t.isNil else t.isNil then some ([], t) else (q4b.f K).bind fun t => (q2j.f K [(65 : Int), (86 : Int), (1 : Int)] t).bind fun t => (q0d.f K (IntKind.u64.wrap (↑a0.length : Int)) t).bind fun t => (l0.f K K a0 (↑a0.length : Int) (0 : Int) t).bind fun t => (q0d.f K (IntKind.u64.wrap (↑a1.length : Int)) t).bind fun t => (l1.f K K a1 (↑a1.length : Int) (0 : Int) t).bind fun t => (q0d.f K (IntKind.u64.wrap (↑a2.length : Int)) t).bind fun t => (l2.f K K a2 (↑a2.length : Int) (0 : Int) t).bind fun t => (q1s.f K t).bind fun t => some (t, Err.nil)
noncomputable def e (K : Nat) : En M := fnE (X K) 24 Tryz.func24 ⟨sh13, [], sh3, []⟩ [l0.b K, l1.b K, l2.b K] (fun x => f K x.1.1 x.1.2.1 x.1.2.2) (fun x r => ((r.1, r.2), ())) fun x => by
  rw [q0a, f]
  try simp only [el]
  kernel_rfl
end q2o
namespace z4g
noncomputable def f (K : Nat) (a0 : List Int) : Option (List Int × List q0x × List q0g × Err) := (q8k.f K a0).bind fun t => (q6g.f K t.1 t.2).bind fun t => some (t.1, t.2.1, t.2.2.1, t.2.2.2.1)
noncomputable def e (K : Nat) : En M := fnE (m := 0) { hmx := mxd, nt := 9, cs := [q8k.e K, q6g.e K] } 26 Tryz.func26 ⟨sh0, [], sh1f, []⟩ [] (fun x => f K x.1) (fun x r => (((r.1, r.2.1, r.2.2.1), r.2.2.2), ())) fun x => by
  rw [q0a, f]
  try simp only [el]
  kernel_rfl
end z4g
noncomputable def q0r.sig : Sig := ⟨(.ty (.slice yI)), [], (.ty (.slice yI)), []⟩
noncomputable def q0r.f (K : Nat) (a0 : List Int) : Option (List Int) := bif (0 + a0.length).ble 4000000 then some a0 else none
noncomputable def q0r.F (K : Nat) : q0r.sig.In → Option (List Int) := fun x => q0r.f K x.1
noncomputable def q0r.cv : q0r.sig.In → (List Int) → q0r.sig.Ou := fun x r => (r, ())
theorem q0r.rets (K : Nat) : ∀ x y, q2u (q0r.F K) q0r.cv x = some y → Rets M 82 q0r.sig x y := fun x y h =>
  q6x (M := M) (g := q0r.sig) (T := yI) (e := 2) (n := 8) (L := 1) (x := x.1) (args0 := x.1) (G := fun xs => bif (0 + xs.length).ble 4000000 then some (q0r.cv (xs, ()) xs) else none) (by kernel_rfl) Tryz.func82 (show Tryz.f82.body = some (.seq _ (.seq (.seq (.region _ #[⟨some 3, .move (.tmp 0), _, _, _, none⟩, ⟨some 4, .binOp .eql _ (.tmp 3) (.const (.slice none 0 0)) _, _, _, _, none⟩] false) _) _)) from rfl)
    (by kernel_rfl) rfl rfl (by kernel_rfl) (by decide) (by kernel_rfl) (by kernel_rfl) (by kernel_rfl) (by kernel_rfl) (by kernel_rfl) (by kernel_rfl) (Eq.trans (show (bif (0 + x.1.length).ble 4000000 then some (q0r.cv x x.1) else none) = (bif (0 + x.1.length).ble 4000000 then some x.1 else none).bind fun r => some (q0r.cv x r) by rw [q7a]; rfl) h) x.2
noncomputable def q0r.e (K : Nat) : En M := ⟨82, q0r.sig, _, q0r.F K, q0r.cv, by rfl, Tryz.f82, Tryz.func82, by kernel_rfl, rfl, q0r.rets K⟩
noncomputable def q0h.sig : Sig := ⟨(.ty (.slice yI)), [], (.own 0), [.list 2 yI []]⟩
noncomputable def q0h.f (K : Nat) (a0 : List Int) : Option (List Int) := bif (0 + a0.length).ble 4000000 then some a0 else none
noncomputable def q0h.F (K : Nat) : q0h.sig.In → Option (List Int) := fun x => q0h.f K x.1
noncomputable def q0h.cv : q0h.sig.In → (List Int) → q0h.sig.Ou := fun x r => ((), (r, ()))
theorem q0h.rets (K : Nat) : ∀ x y, q2u (q0h.F K) q0h.cv x = some y → Rets M 82 q0h.sig x y := fun x y h =>
  q6x (M := M) (g := q0h.sig) (T := yI) (e := 2) (n := 8) (L := 1) (x := x.1) (args0 := x.1) (G := fun xs => bif (0 + xs.length).ble 4000000 then some (q0h.cv (xs, ()) xs) else none) (by kernel_rfl) Tryz.func82 (show Tryz.f82.body = some (.seq _ (.seq (.seq (.region _ #[⟨some 3, .move (.tmp 0), _, _, _, none⟩, ⟨some 4, .binOp .eql _ (.tmp 3) (.const (.slice none 0 0)) _, _, _, _, none⟩] false) _) _)) from rfl)
    (by kernel_rfl) rfl rfl (by kernel_rfl) (by decide) (by kernel_rfl) (by kernel_rfl) (by kernel_rfl) (by kernel_rfl) (by kernel_rfl) (by kernel_rfl) (Eq.trans (show (bif (0 + x.1.length).ble 4000000 then some (q0h.cv x x.1) else none) = (bif (0 + x.1.length).ble 4000000 then some x.1 else none).bind fun r => some (q0h.cv x r) by rw [q7a]; rfl) h) x.2
noncomputable def q0h.e (K : Nat) : En M := ⟨82, q0h.sig, _, q0h.F K, q0h.cv, by rfl, Tryz.f82, Tryz.func82, by kernel_rfl, rfl, q0h.rets K⟩
noncomputable def q0c.sig : Sig := ⟨(.ty (.slice q2h)), [], (.own 0), [.list 86 q2h []]⟩
noncomputable def q0c.f (K : Nat) (a0 : List q0g) : Option (List q0g) := bif (0 + a0.length).ble 4000000 then some a0 else none
noncomputable def q0c.F (K : Nat) : q0c.sig.In → Option (List q0g) := fun x => q0c.f K x.1
noncomputable def q0c.cv : q0c.sig.In → (List q0g) → q0c.sig.Ou := fun x r => ((), (r, ()))
theorem q0c.rets (K : Nat) : ∀ x y, q2u (q0c.F K) q0c.cv x = some y → Rets M 134 q0c.sig x y := fun x y h =>
  q6x (M := M) (g := q0c.sig) (T := q2h) (e := 86) (n := 8) (L := 1) (x := x.1) (args0 := x.1) (G := fun xs => bif (0 + xs.length).ble 4000000 then some (q0c.cv (xs, ()) xs) else none) (by kernel_rfl) Tryz.func134 (show Tryz.f134.body = some (.seq _ (.seq (.seq (.region _ #[⟨some 3, .move (.tmp 0), _, _, _, none⟩, ⟨some 4, .binOp .eql _ (.tmp 3) (.const (.slice none 0 0)) _, _, _, _, none⟩] false) _) _)) from rfl)
    (by kernel_rfl) rfl rfl (by kernel_rfl) (by decide) (by kernel_rfl) (by kernel_rfl) (by kernel_rfl) (by kernel_rfl) (by kernel_rfl) (by kernel_rfl) (Eq.trans (show (bif (0 + x.1.length).ble 4000000 then some (q0c.cv x x.1) else none) = (bif (0 + x.1.length).ble 4000000 then some x.1 else none).bind fun r => some (q0c.cv x r) by rw [q7a]; rfl) h) x.2
noncomputable def q0c.e (K : Nat) : En M := ⟨134, q0c.sig, _, q0c.F K, q0c.cv, by rfl, Tryz.f134, Tryz.func134, by kernel_rfl, rfl, q0c.rets K⟩
noncomputable def q0e.sig : Sig := ⟨(.ty (.slice q2r)), [], (.own 0), [.list 106 q2r []]⟩
noncomputable def q0e.f (K : Nat) (a0 : List q1m) : Option (List q1m) := bif (0 + a0.length).ble 4000000 then some a0 else none
noncomputable def q0e.F (K : Nat) : q0e.sig.In → Option (List q1m) := fun x => q0e.f K x.1
noncomputable def q0e.cv : q0e.sig.In → (List q1m) → q0e.sig.Ou := fun x r => ((), (r, ()))
theorem q0e.rets (K : Nat) : ∀ x y, q2u (q0e.F K) q0e.cv x = some y → Rets M 188 q0e.sig x y := fun x y h =>
  q6x (M := M) (g := q0e.sig) (T := q2r) (e := 106) (n := 8) (L := 1) (x := x.1) (args0 := x.1) (G := fun xs => bif (0 + xs.length).ble 4000000 then some (q0e.cv (xs, ()) xs) else none) (by kernel_rfl) Tryz.func188 (show Tryz.f188.body = some (.seq _ (.seq (.seq (.region _ #[⟨some 3, .move (.tmp 0), _, _, _, none⟩, ⟨some 4, .binOp .eql _ (.tmp 3) (.const (.slice none 0 0)) _, _, _, _, none⟩] false) _) _)) from rfl)
    (by kernel_rfl) rfl rfl (by kernel_rfl) (by decide) (by kernel_rfl) (by kernel_rfl) (by kernel_rfl) (by kernel_rfl) (by kernel_rfl) (by kernel_rfl) (Eq.trans (show (bif (0 + x.1.length).ble 4000000 then some (q0e.cv x x.1) else none) = (bif (0 + x.1.length).ble 4000000 then some x.1 else none).bind fun r => some (q0e.cv x r) by rw [q7a]; rfl) h) x.2
noncomputable def q0e.e (K : Nat) : En M := ⟨188, q0e.sig, _, q0e.F K, q0e.cv, by rfl, Tryz.f188, Tryz.func188, by kernel_rfl, rfl, q0e.rets K⟩
noncomputable def q0f.sig : Sig := ⟨(.ty (.slice q6t)), [], (.own 0), [.list 239 q6t []]⟩
noncomputable def q0f.f (K : Nat) (a0 : List q3n) : Option (List q3n) := bif (0 + a0.length).ble 4000000 then some a0 else none
noncomputable def q0f.F (K : Nat) : q0f.sig.In → Option (List q3n) := fun x => q0f.f K x.1
noncomputable def q0f.cv : q0f.sig.In → (List q3n) → q0f.sig.Ou := fun x r => ((), (r, ()))
theorem q0f.rets (K : Nat) : ∀ x y, q2u (q0f.F K) q0f.cv x = some y → Rets M 189 q0f.sig x y := fun x y h =>
  q6x (M := M) (g := q0f.sig) (T := q6t) (e := 239) (n := 8) (L := 1) (x := x.1) (args0 := x.1) (G := fun xs => bif (0 + xs.length).ble 4000000 then some (q0f.cv (xs, ()) xs) else none) (by kernel_rfl) Tryz.func189 (show Tryz.f189.body = some (.seq _ (.seq (.seq (.region _ #[⟨some 3, .move (.tmp 0), _, _, _, none⟩, ⟨some 4, .binOp .eql _ (.tmp 3) (.const (.slice none 0 0)) _, _, _, _, none⟩] false) _) _)) from rfl)
    (by kernel_rfl) rfl rfl (by kernel_rfl) (by decide) (by kernel_rfl) (by kernel_rfl) (by kernel_rfl) (by kernel_rfl) (by kernel_rfl) (by kernel_rfl) (Eq.trans (show (bif (0 + x.1.length).ble 4000000 then some (q0f.cv x x.1) else none) = (bif (0 + x.1.length).ble 4000000 then some x.1 else none).bind fun r => some (q0f.cv x r) by rw [q7a]; rfl) h) x.2
noncomputable def q0f.e (K : Nat) : En M := ⟨189, q0f.sig, _, q0f.F K, q0f.cv, by rfl, Tryz.f189, Tryz.func189, by kernel_rfl, rfl, q0f.rets K⟩
noncomputable def q0y.sig : Sig := ⟨(.ty (.slice yI)), [], (.ty (.slice yI)), []⟩
noncomputable def q0y.f (K : Nat) (a0 : List Int) : Option (List Int) := bif (0 + a0.length).ble 4000000 then some a0 else none
noncomputable def q0y.F (K : Nat) : q0y.sig.In → Option (List Int) := fun x => q0y.f K x.1
noncomputable def q0y.cv : q0y.sig.In → (List Int) → q0y.sig.Ou := fun x r => (r, ())
theorem q0y.rets (K : Nat) : ∀ x y, q2u (q0y.F K) q0y.cv x = some y → Rets M 117 q0y.sig x y := fun x y h =>
  q6x (M := M) (g := q0y.sig) (T := yI) (e := 3) (n := 8) (L := 1) (x := x.1) (args0 := x.1) (G := fun xs => bif (0 + xs.length).ble 4000000 then some (q0y.cv (xs, ()) xs) else none) (by kernel_rfl) Tryz.func117 (show Tryz.f117.body = some (.seq _ (.seq (.seq (.region _ #[⟨some 3, .move (.tmp 0), _, _, _, none⟩, ⟨some 4, .binOp .eql _ (.tmp 3) (.const (.slice none 0 0)) _, _, _, _, none⟩] false) _) _)) from rfl)
    (by kernel_rfl) rfl rfl (by kernel_rfl) (by decide) (by kernel_rfl) (by kernel_rfl) (by kernel_rfl) (by kernel_rfl) (by kernel_rfl) (by kernel_rfl) (Eq.trans (show (bif (0 + x.1.length).ble 4000000 then some (q0y.cv x x.1) else none) = (bif (0 + x.1.length).ble 4000000 then some x.1 else none).bind fun r => some (q0y.cv x r) by rw [q7a]; rfl) h) x.2
noncomputable def q0y.e (K : Nat) : En M := ⟨117, q0y.sig, _, q0y.F K, q0y.cv, by rfl, Tryz.f117, Tryz.func117, by kernel_rfl, rfl, q0y.rets K⟩
namespace q83
noncomputable def X (K : Nat) : Fx M 0 := { hmx := mxd, nt := 47, cs := [q0e.e K, q0f.e K, q0y.e K], rf := [(11, ⟨[1, 2, 3, 4, 12, 13], (.cons (.ptr 0 0) (.cons (.ptr 1 0) (.cons (.ty yI) (.cons (.ty (.slice q6t)) (.cons (.ty yI) (.ty yI)))))), hs38⟩)] }
noncomputable def l1.f (K : Nat) : Nat → Int → Int → List q3n → Option (List q3n)
  | 0, _, _, _ => none
  | k + 1, a3, a4, a11 => bif decide (a4 < a3) then bif decide ((0 : Int) ≤ a4) then bif a4.toNat.blt a11.length then a11[a4.toNat]?.bind fun t => (q0y.f K t.2.2.2.2.2).bind fun t => bif decide ((0 : Int) ≤ a4) then bif a4.toNat.blt a11.length then a11[a4.toNat]?.bind fun t_1 => l1.f K k a3 (IntKind.i64.wrap (a4 + (1 : Int))) (a11.set a4.toNat (t_1.1, t_1.2.1, t_1.2.2.1, t_1.2.2.2.1, t_1.2.2.2.2.1, t)) else none else none else none else none else some a11
noncomputable def l1.b (K : Nat) : Lp M 0 := q24 (X K) 7 47 2 (q01 Tryz.f135 1) ⟨[1, 2, 3, 4, 12, 13, 24, 25], (.cons (.ptr 0 0) (.cons (.ptr 1 0) (.cons (.ty yI) (.cons (.own 2) (.cons (.ty yI) (.cons (.ty yI) (.cons (.ty yI) (.ty yI)))))))), hs3e⟩ ⟨[1, 2, 3, 4, 12, 13], (.cons (.ptr 0 0) (.cons (.ptr 1 0) (.cons (.ty yI) (.cons (.own 2) (.cons (.ty yI) (.ty yI)))))), hs3e⟩ K [] (fun k x => l1.f K k x.1.2.2.2.2.2.2.1 x.1.2.2.2.2.2.2.2 x.2.2.2.1) (fun x r => (((), (), x.1.2.2.1, (), x.1.2.2.2.2.1, x.1.2.2.2.2.2.1), x.2.1, x.2.2.1, r, x.2.2.2.2)) fun k x => by
  rw [q0a, l1.f]
  try simp only [el]
  kernel_rfl
noncomputable def l0.f (K : Nat) : Nat → Int → Int → List q1m → Option (List q1m)
  | 0, _, _, _ => none
  | k + 1, a0, a1, a8 => bif decide (a1 < a0) then bif decide ((0 : Int) ≤ a1) then bif a1.toNat.blt a8.length then a8[a1.toNat]?.bind fun t => (q0f.f K t.1).bind fun t => (l1.f K K (↑t.length : Int) (0 : Int) t).bind fun t => bif decide ((0 : Int) ≤ a1) then bif a1.toNat.blt a8.length then a8[a1.toNat]?.bind fun t_1 => l0.f K k a0 (IntKind.i64.wrap (a1 + (1 : Int))) (a8.set a1.toNat (t, t_1.2.1, t_1.2.2.1, t_1.2.2.2.1, t_1.2.2.2.2)) else none else none else none else none else some a8
noncomputable def l0.b (K : Nat) : Lp M 0 := q24 (X K) 3 47 0 (q01 Tryz.f135 0) ⟨[1, 2, 12, 13], sh3f, hs38⟩ ⟨[1, 2], sh1c, hs38⟩ K [l1.b K] (fun k x => l0.f K k x.1.2.2.1 x.1.2.2.2 x.2.2.2.1) (fun x r => (((), ()), x.2.1, x.2.2.1, r, x.2.2.2.2)) fun k x => by
  rw [q0a, l0.f]
  try simp only [el]
  kernel_rfl
noncomputable def f (K : Nat) (a3 : List q1m) : Option (List q1m) := (q0e.f K a3).bind fun t => l0.f K K (↑t.length : Int) (0 : Int) t
noncomputable def e (K : Nat) : En M := fnE (X K) 135 Tryz.func135 ⟨shf, [], shf, []⟩ [l0.b K, l1.b K] (fun x => f K x.1.2.2.2) (fun x r => ((x.1.1, x.1.2.1, x.1.2.2.1, r), ())) fun x => by
  rw [q0a, f]
  try simp only [el]
  kernel_rfl
end q83
end
end Go.Proofs.YtdjkdmjdcdljmaaGreatDoor.AU
