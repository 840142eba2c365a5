/- The law AvermentFiles, in parts: this text is packed by program (names shortened). No condition. -/
import Derived.Test.YtdjkdmjdcdljmaaGreatDoorProg
import Derived.Test.YtdjkdmjdcdljmaaGreatDoorPH
set_option linter.unusedVariables false
set_option linter.unusedSimpArgs false
namespace Go.Proofs.YtdjkdmjdcdljmaaGreatDoor.AF
open Go.Proofs.q0a
noncomputable section
set_option maxRecDepth 1000000
set_option maxHeartbeats 4000000
abbrev yI : Ty := .int .i64
abbrev q2f : Ty := (.pair .str yI)
abbrev q0h := ByteArray × Int
abbrev yKnown : Ty := (.pair .bool yI)
abbrev LKnown := Bool × Int
abbrev z4f : Ty := (.pair yI yI)
abbrev q97 := Int × Int
abbrev yEnd : Ty := (.pair yI (.pair yI z4f))
abbrev LEnd := Int × Int × q97
abbrev q02 : Ty := (.pair yI (.pair yKnown (.pair z4f yI)))
abbrev q0d := Int × LKnown × q97 × Int
abbrev yFrame : Ty := (.pair yI (.pair yI (.pair yI (.pair (.slice yI) (.slice yI)))))
abbrev q69 : Ty := (.pair yI (.pair yI (.pair yI (.pair yI (.pair yI (.slice yI))))))
abbrev q32 := Int × Int × Int × Int × Int × List Int
abbrev yState : Ty := (.pair .bool (.pair (.slice q02) (.slice (.slice yI))))
abbrev LState := Bool × List q0d × List (List Int)
abbrev q1g : Ty := (.pair yState (.slice yI))
abbrev q0j := LState × List Int
abbrev q3f : Ty := (.pair (.slice q69) yEnd)
abbrev q1k := List q32 × LEnd
abbrev z0m : Ty := (.pair (.slice q69) (.pair (.slice yI) yEnd))
abbrev z9u := List q32 × List Int × LEnd
abbrev ySum : Ty := (.pair .bool (.pair (.slice q02) (.pair .bool q02)))
abbrev LSum := Bool × List q0d × Bool × q0d
abbrev q30 : Ty := (.pair .str (.pair yI (.pair yI (.slice q3f))))
abbrev q0t := ByteArray × Int × Int × List q1k
abbrev yModule : Ty := (.pair (.slice yI) (.pair (.slice q30) (.slice q2f)))
abbrev q1r : Ty := (.pair ySum (.slice q1g))
abbrev q0l := LSum × List q0j
abbrev z02 : Ty := (.pair (.slice q30) (.pair (.slice (.slice z0m)) (.slice yI)))
abbrev q64 := List q0t × List (List z9u) × List Int
abbrev yTable : Ty := (.pair (.slice q02) (.pair (.slice q1r) (.slice ySum)))
noncomputable def M : Cfg := { P := Tryz.prog, ty := fun t => bif Nat.beq t 2 then some yI else bif Nat.beq t 3 then some yI else bif Nat.beq t 5 then some (.int .u8) else bif Nat.beq t 74 then some q02 else bif Nat.beq t 78 then some q30 else bif Nat.beq t 80 then some ySum else bif Nat.beq t 83 then some q1r else bif Nat.beq t 86 then some q2f else bif Nat.beq t 100 then some (.slice yI) else bif Nat.beq t 106 then some q3f else bif Nat.beq t 111 then some q1g else bif Nat.beq t 144 then some q30 else bif Nat.beq t 151 then some q02 else bif Nat.beq t 153 then some ySum else bif Nat.beq t 156 then some q1r else bif Nat.beq t 160 then some q1g else bif Nat.beq t 186 then some q69 else bif Nat.beq t 190 then some q3f else bif Nat.beq t 196 then some yFrame else bif Nat.beq t 229 then some (.pair yI z4f) else bif Nat.beq t 239 then some q69 else bif Nat.beq t 268 then some (.slice z0m) else bif Nat.beq t 270 then some z0m else bif Nat.beq t 316 then some (.pair (.int .u8) (.ptr yI)) else bif Nat.beq t 367 then some z4f else none, frz := fun t => bif Nat.beq t 100 then some (.slice yI) else bif Nat.beq t 111 then some q1g else bif Nat.beq t 268 then some (.slice z0m) else none, made := fun t => bif Nat.beq t 107 then some (3, yI) else none, errno := 98, placed := 203 }
theorem mxd : M.P.follows .mixedOrders = true := by kernel_rfl
abbrev sh0 : Sh := (.agg (.cons (.ty (.slice yI)) (.cons (.ty (.slice q30)) (.ty (.slice q2f)))))
abbrev sh1 : Sh := (.cons (.ptr 0 0) (.cons (.ptr 1 0) (.cons (.ptr 2 0) (.cons (.ty yI) (.cons (.ptr 3 0) (.cons (.ptr 4 0) (.cons (.ty yI) (.ptr 5 0))))))))
abbrev sh2 : Sh := (.cons (.ty (.slice yI)) (.cons (.ty (.slice q30)) (.ty (.slice q2f))))
abbrev hh3 : HSh := .cells 49 0 sh2
abbrev sh4 : Sh := (.cons (.own 6) (.cons (.own 7) (.own 8)))
abbrev sh5 : Sh := (.cons (.ty (.slice yI)) (.cons (.own 9) (.ty (.slice q2f))))
abbrev sh6 : Sh := (.cons (.ty .str) (.cons (.ty yI) (.cons (.ty yI) (.ty (.slice q3f)))))
abbrev hh7 : HSh := .cells 144 0 sh6
abbrev sh8 : Sh := (.cons (.ty .str) (.cons (.ty yI) (.cons (.ty yI) (.own 10))))
abbrev sh9 : Sh := (.cons (.ty (.slice q69)) (.cons (.ty yI) (.cons (.ty yI) (.cons (.ty yI) (.ty yI)))))
abbrev sha : Sh := (.cons (.ptr 0 0) (.cons (.ptr 1 0) (.cons (.ptr 2 0) (.cons (.ty yI) (.ptr 3 0)))))
abbrev shb : Sh := (.cons (.own 4) (.cons (.own 5) (.own 6)))
abbrev shc : Sh := (.cons (.ty (.slice yI)) (.cons (.own 7) (.ty (.slice q2f))))
abbrev hsd : List HSh := [hh3, .cells 49 0 sh4, .cells 49 0 sh5, hh7, .cells 144 0 sh8, .cells 190 0 (.cons (.own 11) (.cons (.ty yI) (.cons (.ty yI) (.cons (.ty yI) (.ty yI))))), .list 2 yI [], .list 144 q30 [], .list 145 q2f [], .list 144 q30 [], .list 190 q3f [], .list 186 q69 []]
abbrev she : Sh := (.cons (.own 5) (.cons (.own 6) (.own 7)))
abbrev shf : Sh := (.cons (.ptr 0 0) (.cons (.ptr 1 0) (.cons (.ptr 2 0) (.ty yI))))
abbrev sh10 : Sh := (.cons (.own 3) (.cons (.own 4) (.own 5)))
abbrev sh11 : Sh := (.cons (.ptr 0 0) (.ptr 1 0))
abbrev sh12 : Sh := (.cons (.own 2) (.cons (.own 3) (.own 4)))
abbrev ss13 : SSh := ⟨[], .unit, []⟩
abbrev sh14 : Sh := (.cons (.agg (.cons (.ty (.slice yI)) (.cons (.ty (.slice q30)) (.ty (.slice q2f))))) (.ty yI))
abbrev sh15 : Sh := (.cons (.agg (.cons (.ty (.slice yI)) (.cons (.ty (.slice q30)) (.ty (.slice q2f))))) (.ty .str))
abbrev sh16 : Sh := (.cons (.agg (.cons (.ty (.slice yI)) (.cons (.ty (.slice q30)) (.ty (.slice q2f))))) (.cons (.agg (.cons (.ty .str) (.cons (.ty yI) (.cons (.ty yI) (.ty (.slice q3f)))))) (.agg (.cons (.ty yI) (.cons (.ty yI) (.cons (.ty yI) (.cons (.ty yI) (.cons (.ty yI) (.ty (.slice yI))))))))))
abbrev sh17 : Sh := (.cons (.ptr 0 0) (.cons (.ty yI) (.ty yI)))
abbrev sh18 : Sh := (.cons (.ty yI) (.cons (.ty yI) (.cons (.ty yI) (.cons (.ty yI) (.cons (.ty yI) (.ty (.slice yI)))))))
abbrev sh19 : Sh := (.cons (.agg (.cons (.ty .str) (.cons (.ty yI) (.cons (.ty yI) (.ty (.slice q3f)))))) (.agg (.cons (.ty yI) (.cons (.ty yI) (.cons (.ty yI) (.ty yI))))))
abbrev sh1a : Sh := (.cons (.ty yI) (.ty (.slice yI)))
abbrev sh1b : Sh := (.cons (.ptr 0 0) (.ty yI))
abbrev sh1c : Sh := (.cons (.ty yI) (.own 0))
abbrev hs1d : List HSh := [.list 3 yI []]
abbrev hs1e : List HSh := [hh3, .list 229 (.pair yI z4f) []]
abbrev sh1f : Sh := (.cons (.ptr 0 0) (.cons (.own 1) (.cons (.ty yI) (.ty yI))))
abbrev sh20 : Sh := (.cons (.ptr 0 0) (.cons (.own 1) (.ty yI)))
abbrev sh21 : Sh := (.agg (.cons (.ty .bool) (.cons (.ty (.slice q02)) (.cons (.ty .bool) (.cons (.ty yI) (.cons (.ty .bool) (.cons (.ty yI) (.cons (.ty yI) (.cons (.ty yI) (.ty yI))))))))))
abbrev sh22 : Sh := (.agg (.cons (.ty (.slice q02)) (.cons (.ty (.slice q1r)) (.ty (.slice ySum)))))
abbrev sh23 : Sh := (.cons (.ptr 0 0) (.cons (.ptr 1 0) (.cons (.ptr 2 0) (.cons (.ty yI) (.cons (.ptr 3 0) (.cons (.ty yI) (.ptr 4 0)))))))
abbrev sh24 : Sh := (.cons (.ty (.slice q02)) (.cons (.ty (.slice q1r)) (.ty (.slice ySum))))
abbrev hh25 : HSh := .cells 54 0 sh24
abbrev hh26 : HSh := .cells 54 0 she
abbrev sh27 : Sh := (.cons (.ty (.slice q02)) (.cons (.own 8) (.own 9)))
abbrev sh28 : Sh := (.cons (.ty .bool) (.cons (.ty (.slice q02)) (.cons (.ty .bool) (.cons (.ty yI) (.cons (.ty .bool) (.cons (.ty yI) (.cons (.ty yI) (.cons (.ty yI) (.cons (.ty yI) (.own 10))))))))))
abbrev sh29 : Sh := (.cons (.ty .bool) (.cons (.ty (.slice q02)) (.cons (.ty (.slice (.slice yI))) (.ty (.slice yI)))))
abbrev sh2a : Sh := (.cons (.ty (.slice q02)) (.cons (.own 7) (.own 8)))
abbrev sh2b : Sh := (.cons (.ty .bool) (.cons (.ty (.slice q02)) (.cons (.ty .bool) (.cons (.ty yI) (.cons (.ty .bool) (.cons (.ty yI) (.cons (.ty yI) (.cons (.ty yI) (.cons (.ty yI) (.ty (.slice q1g)))))))))))
abbrev sh2c : Sh := (.cons (.ty (.slice q02)) (.cons (.own 6) (.own 7)))
abbrev hs2d : List HSh := [hh25, .cells 54 0 sh10, .cells 54 0 sh2c, .list 151 q02 [], .list 156 q1r [], .list 153 ySum [], .list 156 q1r [], .list 153 ySum []]
abbrev sh2e : Sh := (.cons (.ty (.slice q02)) (.cons (.own 5) (.own 6)))
abbrev sh2f : Sh := (.cons (.ty .bool) (.cons (.ty (.slice q02)) (.cons (.ty .bool) (.cons (.ty yI) (.cons (.ty .bool) (.cons (.ty yI) (.cons (.ty yI) (.cons (.ty yI) (.cons (.ty yI) (.own 11))))))))))
abbrev sh30 : Sh := (.cons (.ptr 0 0) (.cons (.ptr 1 0) (.cons (.ptr 2 0) (.cons (.ty yI) (.cons (.ptr 3 0) (.ty yI))))))
abbrev sh31 : Sh := (.cons (.ty .bool) (.cons (.ty (.slice q02)) (.cons (.ty .bool) (.cons (.ty yI) (.cons (.ty .bool) (.cons (.ty yI) (.cons (.ty yI) (.cons (.ty yI) (.cons (.ty yI) (.own 9))))))))))
abbrev hs32 : List HSh := [hh25, .cells 54 0 shb, .cells 54 0 sh2a, .cells 156 0 sh31, .list 151 q02 [], .list 156 q1r [], .list 153 ySum [], .list 156 q1r [], .list 153 ySum [], .list 160 q1g []]
abbrev sh33 : Sh := (.cons (.ptr 0 0) (.cons (.ptr 1 0) (.ptr 2 0)))
abbrev sh34 : Sh := (.ty (.slice yI))
abbrev sh35 : Sh := (.agg (.cons (.ty yI) (.ty yI)))
abbrev sh36 : Sh := (.agg (.cons (.ty yI) (.cons (.ty .bool) (.cons (.ty yI) (.cons (.ty yI) (.cons (.ty yI) (.ty yI)))))))
abbrev sh37 : Sh := (.cons (.ty .bool) (.cons (.own 3) (.cons (.ty .bool) (.cons (.ty yI) (.cons (.ty .bool) (.cons (.ty yI) (.cons (.ty yI) (.cons (.ty yI) (.ty yI)))))))))
abbrev hs38 : List HSh := [.cells 153 0 (.cons (.ty .bool) (.cons (.own 2) (.cons (.ty .bool) (.cons (.ty yI) (.cons (.ty .bool) (.cons (.ty yI) (.cons (.ty yI) (.cons (.ty yI) (.ty yI))))))))), .cells 153 0 sh37, .list 151 q02 [], .list 151 q02 []]
abbrev sh39 : Sh := (.cons (.ptr 0 0) (.cons (.ptr 1 0) (.cons (.ptr 2 0) (.cons (.ty (.slice yI)) (.cons (.ty yI) (.cons (.ptr 3 0) (.cons (.ty yI) (.ptr 4 0))))))))
abbrev sh3a : Sh := (.cons (.own 8) (.cons (.own 9) (.own 10)))
abbrev sh3b : Sh := (.cons (.ty .bool) (.cons (.ty (.slice q02)) (.ty (.slice (.slice yI)))))
abbrev hh3c : HSh := .cells 158 0 sh3b
abbrev sh3d : Sh := (.cons (.ptr 0 0) (.cons (.ptr 1 0) (.cons (.ptr 2 0) (.cons (.ty (.slice yI)) (.cons (.ty yI) (.ptr 3 0))))))
abbrev hh3e : HSh := .cells 54 0 (.cons (.own 7) (.cons (.own 8) (.own 9)))
abbrev hs3f : List HSh := [hh3, .cells 54 0 shb, hh3e, .cells 156 0 sh28, .list 151 q02 [], .list 156 q1r [], .list 153 ySum [], .list 151 q02 [], .list 156 (.pair ySum (.own 0)) [11], .list 153 ySum [], .list 160 q1g [], .many 160 q1g]
abbrev hs40 : List HSh := [hh3, .cells 54 0 sh10, .cells 54 0 sh4, .list 151 q02 [], .list 156 q1r [], .list 153 ySum [], .list 151 q02 [], .list 156 (.pair ySum (.own 0)) [9], .list 153 ySum [], .many 160 q1g]
abbrev hs41 : List HSh := [.cells 54 0 sh12, hh26, .list 151 q02 [], .list 156 q1r [], .list 153 ySum [], .list 151 q02 [], .list 156 (.pair ySum (.own 0)) [8], .list 153 ySum [], .many 160 q1g]
abbrev hs42 : List HSh := [hh3, hh26, .cells 54 0 sh3a, .cells 156 0 sh2f, .cells 158 0 (.cons (.ty .bool) (.cons (.own 12) (.own 13))), .list 151 q02 [], .list 156 q1r [], .list 153 ySum [], .list 151 q02 [], .list 156 (.pair ySum (.own 0)) [14], .list 153 ySum [], .list 160 q1g [], .list 151 q02 [], .list 100 (.slice yI) [], .many 160 q1g]
abbrev sh43 : Sh := (.cons (.ptr 0 0) (.cons (.ptr 1 0) (.cons (.ptr 2 0) (.cons (.ty (.slice yI)) (.ty yI)))))
abbrev sh44 : Sh := (.agg (.cons (.ty .bool) (.ty yI)))
abbrev sh45 : Sh := (.cons (.agg (.cons (.ty .bool) (.cons (.ty (.slice q02)) (.cons (.ty .bool) (.cons (.ty yI) (.cons (.ty .bool) (.cons (.ty yI) (.cons (.ty yI) (.cons (.ty yI) (.ty yI)))))))))) (.ty yI))
abbrev sh46 : Sh := (.cons (.ty .bool) (.cons (.own 4) (.cons (.ty .bool) (.cons (.ty yI) (.cons (.ty .bool) (.cons (.ty yI) (.cons (.ty yI) (.cons (.ty yI) (.ty yI)))))))))
abbrev hs47 : List HSh := [.cells 153 0 (.cons (.ty .bool) (.cons (.ty (.slice q02)) (.cons (.ty .bool) (.cons (.ty yI) (.cons (.ty .bool) (.cons (.ty yI) (.cons (.ty yI) (.cons (.ty yI) (.ty yI))))))))), .cells 153 0 sh37, .cells 153 0 sh46, .list 151 q02 [], .list 151 q02 []]
abbrev sh48 : Sh := (.agg (.cons (.ty .bool) (.cons (.ty (.slice q02)) (.ty (.slice (.slice yI))))))
abbrev sh49 : Sh := (.cons (.ty (.slice yI)) (.cons (.own 0) (.cons (.ty yI) (.ty yI))))
abbrev sh4a : Sh := (.cons (.agg (.cons (.ty .bool) (.cons (.ty (.slice q02)) (.ty (.slice (.slice yI)))))) (.cons (.ty yI) (.ty yI)))
abbrev sh4b : Sh := (.cons (.ty .bool) (.cons (.own 4) (.own 5)))
abbrev hs4c : List HSh := [hh3c, .cells 158 0 sh4b, .cells 158 0 (.cons (.ty .bool) (.cons (.own 6) (.own 7))), .list 3 yI [], .list 151 q02 [], .list 100 (.slice yI) [], .list 151 q02 [], .list 100 (.slice yI) []]
abbrev sh4d : Sh := (.cons (.agg (.cons (.ty (.slice yI)) (.cons (.ty (.slice q30)) (.ty (.slice q2f))))) (.agg (.cons (.ty (.slice q02)) (.cons (.ty (.slice q1r)) (.ty (.slice ySum))))))
abbrev sh4e : Sh := (.cons (.ptr 0 0) (.cons (.ptr 1 0) (.cons (.ptr 2 0) (.cons (.ptr 3 0) (.cons (.ty yI) (.cons (.ty yI) (.cons (.ptr 4 0) (.cons (.ty yI) (.cons (.ptr 5 0) (.own 6))))))))))
abbrev sh4f : Sh := (.cons (.own 10) (.cons (.own 11) (.own 12)))
abbrev sh50 : Sh := (.cons (.ptr 0 0) (.cons (.ptr 1 0) (.cons (.ptr 2 0) (.cons (.ptr 3 0) (.cons (.ty yI) (.cons (.ty yI) (.cons (.ptr 4 0) (.cons (.ty yI) (.cons (.ptr 5 0) (.ptr 6 0))))))))))
abbrev hs51 : List HSh := [hh3, hh25, hh3e, .cells 54 0 sh4f, hh7, .cells 160 0 sh29, .cells 158 0 (.cons (.ty .bool) (.cons (.own 13) (.own 14))), .list 151 q02 [], .list 156 q1r [], .list 153 ySum [], .list 151 q02 [], .list 156 (.pair ySum (.own 0)) [15], .list 153 ySum [], .list 151 q02 [], .list 100 (.slice yI) [], .many 160 q1g]
abbrev sh52 : Sh := (.cons (.ptr 0 0) (.cons (.ptr 1 0) (.cons (.ptr 2 0) (.cons (.ptr 3 0) (.cons (.ty yI) (.ty yI))))))
abbrev hs53 : List HSh := [hh3, hh25, .cells 54 0 shb, hh3e, .list 151 q02 [], .list 156 q1r [], .list 153 ySum [], .list 151 q02 [], .list 156 (.pair ySum (.own 0)) [10], .list 153 ySum [], .many 160 q1g]
abbrev sh54 : Sh := (.cons (.ptr 0 0) (.cons (.ptr 1 0) (.cons (.ptr 2 0) (.cons (.ptr 3 0) (.ty yI)))))
abbrev sh55 : Sh := (.cons (.ptr 0 0) (.cons (.ptr 1 0) (.cons (.ptr 2 0) (.ptr 3 0))))
abbrev sh56 : Sh := (.cons (.agg (.cons (.ty (.slice yI)) (.cons (.ty (.slice q30)) (.ty (.slice q2f))))) (.cons (.agg (.cons (.ty (.slice q02)) (.cons (.ty (.slice q1r)) (.ty (.slice ySum))))) (.ty .bool)))
abbrev sh57 : Sh := (.agg (.cons (.ty yI) (.cons (.ty yI) (.cons (.ty yI) (.ty yI)))))
abbrev sh58 : Sh := (.agg (.cons (.ty yI) (.cons (.ty yI) (.cons (.ty yI) (.cons (.ty yI) (.cons (.ty yI) (.ty (.slice yI))))))))
abbrev sh59 : Sh := (.agg (.cons (.ty .str) (.cons (.ty yI) (.cons (.ty yI) (.ty (.slice q3f))))))
abbrev hh5a : HSh := .cells 78 0 (.cons (.ty .str) (.cons (.ty yI) (.cons (.ty yI) (.own 4))))
abbrev sh5b : Sh := (.cons (.ty .str) (.cons (.ty yI) (.cons (.ty yI) (.own 5))))
abbrev hh5c : HSh := .cells 106 0 sh9
abbrev hs5d : List HSh := [hh7, hh5a, .cells 78 0 sh5b, .cells 106 0 (.cons (.own 6) (.cons (.ty yI) (.cons (.ty yI) (.cons (.ty yI) (.ty yI))))), .list 106 q3f [], .list 106 q3f [], .list 239 q69 []]
abbrev sh5e : Sh := (.cons (.ty .str) (.cons (.ty yI) (.cons (.ty yI) (.own 3))))
abbrev hs5f : List HSh := [.cells 78 0 (.cons (.ty .str) (.cons (.ty yI) (.cons (.ty yI) (.own 2)))), .cells 78 0 sh5e, .list 106 q3f [], .list 106 q3f []]
abbrev hs60 : List HSh := [hh3, .cells 27 0 sh10, .cells 27 0 sh4, .list 2 yI [], .list 78 q30 [], .list 86 q2f [], .list 2 yI [], .list 78 q30 [], .list 86 q2f []]
abbrev hs61 : List HSh := [.cells 27 0 sh12, .cells 27 0 she, .list 2 yI [], .list 78 q30 [], .list 86 q2f [], .list 2 yI [], .list 78 q30 [], .list 86 q2f []]
abbrev hh62 : HSh := .cells 27 0 sh2
abbrev hh63 : HSh := .cells 78 0 sh6
abbrev ss64 : SSh := ⟨[6], (.ty .err), []⟩
abbrev hs65 : List HSh := [.cells 213 0 (.own 1), .list 5 (.int .u8) []]
abbrev hs66 : List HSh := [.cells 213 0 (.own 2), .dead, .list 5 (.int .u8) []]
abbrev sh67 : Sh := (.cons (.ptr 0 0) (.ty (.int .u64)))
abbrev hh68 : HSh := .cells 213 0 (.own 3)
abbrev sh69 : Sh := (.ty (.slice (.int .u8)))
abbrev sh6a : Sh := (.cons (.ty (.slice (.int .u8))) (.ty .err))
abbrev sh6b : Sh := (.cons (.ptr 0 0) (.cons (.ptr 1 0) (.cons (.ty (.slice q30)) (.cons (.ty yI) (.ty yI)))))
abbrev hs6c : List HSh := [hh62, .cells 213 0 (.own 2), .list 5 (.int .u8) []]
abbrev hh6d : HSh := .cells 167 0 (.cons (.ty (.slice (.int .u8))) (.ty yI))
abbrev hh6e : HSh := .cells 255 0 (.cons (.ptr 1 0) (.ty .err))
abbrev hs6f : List HSh := [hh6e, hh6d]
abbrev sh70 : Sh := (.cons (.ptr 0 0) (.cons (.ptr 2 0) (.cons (.ptr 3 0) (.cons (.ty yI) (.ty yI)))))
abbrev hs71 : List HSh := [hh6e, hh6d, .cells 239 0 (.cons (.ty yI) (.cons (.ty yI) (.cons (.ty yI) (.cons (.ty yI) (.cons (.ty yI) (.own 4)))))), .cells 239 0 (.cons (.ty yI) (.cons (.ty yI) (.cons (.ty yI) (.cons (.ty yI) (.cons (.ty yI) (.own 5)))))), .list 3 yI [], .list 3 yI []]
abbrev sh72 : Sh := (.agg (.cons (.ty (.slice q69)) (.cons (.ty yI) (.cons (.ty yI) (.cons (.ty yI) (.ty yI))))))
abbrev hs73 : List HSh := [hh6e, hh6d, .cells 106 0 (.cons (.own 4) (.cons (.ty yI) (.cons (.ty yI) (.cons (.ty yI) (.ty yI))))), .cells 106 0 (.cons (.own 5) (.cons (.ty yI) (.cons (.ty yI) (.cons (.ty yI) (.ty yI))))), .list 239 q69 [], .list 239 q69 []]
abbrev sh74 : Sh := (.cons (.ptr 0 0) (.cons (.ptr 2 0) (.ptr 3 0)))
abbrev hs75 : List HSh := [hh6e, hh6d, hh5a, .cells 78 0 sh5b, .list 106 q3f [], .list 106 q3f []]
abbrev hs76 : List HSh := [hh6e, hh6d, .cells 27 0 shb, .cells 27 0 (.cons (.own 7) (.cons (.own 8) (.own 9))), .list 2 yI [], .list 78 q30 [], .list 86 q2f [], .list 2 yI [], .list 78 q30 [], .list 86 q2f []]
abbrev sh77 : Sh := (.cons (.agg (.cons (.ty (.slice yI)) (.cons (.ty (.slice q30)) (.ty (.slice q2f))))) (.ty .err))
abbrev hs78 : List HSh := [.cells 78 0 sh5e, hh5a, .list 239 q69 [], .list 106 q3f [], .list 106 q3f []]
abbrev sh79 : Sh := (.cons (.ty yI) (.ty .bool))
abbrev sh7a : Sh := (.cons (.ptr 1 0) (.cons (.ty yI) (.cons (.own 2) (.cons (.ptr 3 0) (.cons (.ty (.slice q30)) (.cons (.ty yI) (.cons (.ty yI) (.cons (.ty (.slice q3f)) (.cons (.ty yI) (.ty yI))))))))))
abbrev hs7b : List HSh := [.list 2 yI [], .cells 267 0 (.cons (.ty (.slice q30)) (.cons (.own 4) (.own 5))), .list 270 z0m [], .cells 270 0 (.cons (.ty (.slice q69)) (.cons (.own 6) (.cons (.ty yI) (.cons (.ty yI) (.cons (.ty yI) (.ty yI)))))), .list 268 (.slice z0m) [], .list 3 yI [], .list 3 yI []]
abbrev hs7c : List HSh := [.list 2 yI [], .cells 267 0 (.cons (.ty (.slice q30)) (.cons (.own 3) (.own 4))), .list 270 z0m [], .list 268 (.slice z0m) [], .list 3 yI []]
abbrev hs7d : List HSh := [.list 2 yI [], .cells 267 0 (.cons (.ty (.slice q30)) (.cons (.own 2) (.own 3))), .list 268 (.slice z0m) [], .list 3 yI []]
abbrev hs7e : List HSh := [.cells 196 0 (.cons (.ty yI) (.cons (.ty yI) (.cons (.ty yI) (.cons (.own 2) (.own 3))))), .cells 196 0 (.cons (.ty yI) (.cons (.ty yI) (.cons (.ty yI) (.cons (.own 4) (.own 5))))), .list 2 yI [], .list 3 yI [], .list 2 yI [], .list 3 yI []]
abbrev sh7f : Sh := (.cons (.ty (.ptr z02)) (.cons (.own 1) (.cons (.ty (.slice yI)) (.cons (.own 2) (.cons (.own 3) (.cons (.ty yI) (.ty yI)))))))
abbrev hs80 : List HSh := [.cells 200 0 sh7f, .list 2 yI [], .list 2 yI [], .list 196 (.pair yI (.pair yI (.pair yI (.pair (.own 0) (.own 1))))) [4, 5], .many 2 yI, .many 3 yI]
abbrev hs81 : List HSh := [.cells 200 0 (.cons (.ty (.ptr z02)) (.cons (.own 1) (.cons (.ty (.slice yI)) (.cons (.own 2) (.cons (.own 6) (.cons (.ty yI) (.ty yI))))))), .list 2 yI [], .list 2 yI [], .dead, .many 2 yI, .many 3 yI, .list 196 (.pair yI (.pair yI (.pair yI (.pair (.own 0) (.own 1))))) [4, 5]]
abbrev sh82 : Sh := (.cons (.ptr 0 0) (.cons (.ptrI 3 0) (.agg (.cons (.ty yI) (.cons (.ty yI) (.cons (.ty yI) (.cons (.ty yI) (.cons (.ty yI) (.ty (.slice yI))))))))))
abbrev hs83 : List HSh := [.cells 200 0 sh7f, .list 2 yI [], .list 2 yI [], .list 196 (.pair yI (.pair yI (.pair yI (.pair (.own 0) (.own 1))))) [4, 5], .many 2 yI, .many 3 yI, .cells 239 0 sh18, .list 2 yI []]
abbrev hs84 : List HSh := [.cells 200 0 (.cons (.ty (.ptr z02)) (.cons (.own 1) (.cons (.ty (.slice yI)) (.cons (.own 6) (.cons (.own 7) (.cons (.ty yI) (.ty yI))))))), .list 2 yI [], .dead, .dead, .many 2 yI, .many 3 yI, .list 2 yI [], .list 196 (.pair yI (.pair yI (.pair yI (.pair (.own 0) (.own 1))))) [4, 5]]
abbrev hs85 : List HSh := [hh3c, .cells 109 0 (.cons (.ty .bool) (.cons (.own 3) (.own 4))), .cells 109 0 (.cons (.ty .bool) (.cons (.own 5) (.own 6))), .list 74 q02 [], .list 100 (.slice yI) [], .list 74 q02 [], .list 100 (.slice yI) []]
abbrev hs86 : List HSh := [.cells 109 0 (.cons (.ty .bool) (.cons (.own 2) (.own 3))), .cells 109 0 sh4b, .list 74 q02 [], .list 100 (.slice yI) [], .list 74 q02 [], .list 100 (.slice yI) []]
abbrev hs87 : List HSh := [hh25, .cells 32 0 sh10, .cells 32 0 sh2c, .list 74 q02 [], .list 83 q1r [], .list 80 ySum [], .list 83 q1r [], .list 80 ySum []]
abbrev hs88 : List HSh := [hh25, .cells 32 0 shb, .cells 32 0 sh2a, .cells 83 0 sh31, .list 74 q02 [], .list 83 q1r [], .list 80 ySum [], .list 83 q1r [], .list 80 ySum [], .list 111 q1g []]
abbrev sh89 : Sh := (.cons (.ptr 0 0) (.cons (.ptr 1 0) (.cons (.ty (.slice (.slice yI))) (.cons (.ty yI) (.ty yI)))))
abbrev hh8a : HSh := .cells 32 0 sh24
abbrev sh8b : Sh := (.cons (.ptr 0 0) (.cons (.ptr 1 0) (.cons (.ptr 2 0) (.cons (.ptr 3 0) (.cons (.ty (.slice q1r)) (.cons (.ty yI) (.ty yI)))))))
abbrev hs8c : List HSh := [hh8a, .cells 32 0 shb, .cells 32 0 sh2a, .cells 83 0 sh31, .list 74 q02 [], .list 83 q1r [], .list 80 ySum [], .list 83 (.pair ySum (.own 0)) [10], .list 80 ySum [], .list 111 q1g [], .many 111 q1g]
abbrev hs8d : List HSh := [.cells 32 0 sh12, .cells 32 0 sh2e, .list 74 q02 [], .list 83 q1r [], .list 80 ySum [], .list 83 (.pair ySum (.own 0)) [7], .list 80 ySum [], .many 111 q1g]
abbrev sh8e : Sh := (.cons (.ptr 0 0) (.cons (.ptr 1 0) (.cons (.ptr 2 0) (.cons (.ty (.slice q1r)) (.cons (.ty yI) (.ty yI))))))
abbrev hs8f : List HSh := [hh8a, .cells 32 0 sh10, .cells 32 0 sh2c, .list 74 q02 [], .list 83 q1r [], .list 80 ySum [], .list 83 (.pair ySum (.own 0)) [8], .list 80 ySum [], .many 111 q1g]
abbrev hs90 : List HSh := [.list 100 (.own 0) [1], .many 3 yI]
abbrev sh91 : Sh := (.cons (.own 0) (.cons (.ty (.slice (.slice yI))) (.cons (.ty yI) (.ty yI))))
abbrev sh92 : Sh := (.cons (.ptr 0 0) (.cons (.ptr 1 0) (.cons (.ptr 2 0) (.cons (.own 3) (.cons (.ty yI) (.ty yI))))))
abbrev hs93 : List HSh := [hh62, .cells 32 0 shb, .cells 32 0 (.cons (.ty (.slice q02)) (.cons (.own 3) (.own 7))), .list 83 (.pair ySum (.own 0)) [8], .list 74 q02 [], .list 83 q1r [], .list 80 ySum [], .list 80 ySum [], .many 111 q1g]
abbrev ss94 : SSh := ⟨[4], (.ty .bool), []⟩
abbrev ss95 : SSh := ⟨[6], (.ty .bool), []⟩
abbrev sh96 : Sh := (.cons (.ty (.slice yI)) (.cons (.ty (.slice q30)) (.cons (.ty (.slice q2f)) (.cons (.ty yI) (.ty .bool)))))
abbrev sh97 : Sh := (.cons (.ptr 0 0) (.cons (.ty (.slice ySum)) (.cons (.ty yI) (.ty yI))))
abbrev sh98 : Sh := (.cons (.ptr 0 0) (.cons (.own 2) (.cons (.ty yI) (.ty yI))))
abbrev sh99 : Sh := (.cons (.own 0) (.cons (.ty (.slice yI)) (.cons (.ty yI) (.ty yI))))
abbrev hs9a : List HSh := [hh68, .dead, .cells 111 0 sh29, .list 5 (.int .u8) []]
abbrev hs9b : List HSh := [hh62, hh8a, hh68, .list 5 (.int .u8) []]
abbrev hh9c : HSh := .cells 65 0 (.cons (.ptr 1 0) (.ty .err))
abbrev hs9d : List HSh := [hh9c, hh6d]
abbrev hs9e : List HSh := [hh9c, hh6d, .cells 80 0 sh46, .cells 80 0 (.cons (.ty .bool) (.cons (.own 5) (.cons (.ty .bool) (.cons (.ty yI) (.cons (.ty .bool) (.cons (.ty yI) (.cons (.ty yI) (.cons (.ty yI) (.ty yI))))))))), .list 74 q02 [], .list 74 q02 []]
abbrev sh9f : Sh := (.cons (.ty (.slice yI)) (.ty .err))
abbrev hsa0 : List HSh := [hh6d, .list 3 yI []]
abbrev sha1 : Sh := (.cons (.ptr 0 0) (.cons (.ty yI) (.cons (.own 1) (.cons (.ty yI) (.cons (.ty (.int .u64)) (.ty (.int .u64)))))))
abbrev sha2 : Sh := (.cons (.ptr 0 0) (.cons (.ty yI) (.cons (.ty yI) (.cons (.ptr 2 0) (.cons (.ptr 3 0) (.cons (.ty yI) (.ty yI)))))))
abbrev hsa3 : List HSh := [hh9c, hh6d, .cells 111 0 (.cons (.ty .bool) (.cons (.own 4) (.cons (.own 5) (.own 6)))), .cells 111 0 (.cons (.ty .bool) (.cons (.own 7) (.cons (.own 8) (.own 9)))), .list 74 q02 [], .list 100 (.slice yI) [], .list 3 yI [], .list 74 q02 [], .list 100 (.slice yI) [], .list 3 yI []]
abbrev hsa4 : List HSh := [.cells 27 0 she, .cells 32 0 sh3a, .cells 65 0 (.cons (.ptr 11 0) (.ty .err)), hh62, .cells 32 0 (.cons (.own 12) (.cons (.own 13) (.own 14))), .list 2 yI [], .list 78 q30 [], .list 86 q2f [], .list 74 q02 [], .list 83 q1r [], .list 80 ySum [], hh6d, .list 74 q02 [], .list 83 q1r [], .list 80 ySum []]
abbrev sha5 : Sh := (.cons (.ptr 0 0) (.cons (.ptr 1 0) (.cons (.ptr 2 0) (.cons (.ptr 3 0) (.cons (.ty .bool) (.ptr 4 0))))))
abbrev sha6 : Sh := (.cons (.ty (.slice yI)) (.ty (.slice yI)))
abbrev sha7 : Sh := (.cons (.ty (.slice yI)) (.cons (.ty (.slice yI)) (.cons (.ty yI) (.ty yI))))
namespace q14
noncomputable def X (K : Nat) : Fx M 0 := { hmx := mxd, nt := 113, cs := [], rf := [(18, ⟨[1, 2, 3, 4, 5, 6, 7, 8], sh1, [hh3, .cells 49 0 sh4, .cells 49 0 sh5, hh7, .cells 144 0 sh8, .cells 190 0 sh9, .list 2 yI [], .list 144 q30 [], .list 145 q2f [], .list 144 q30 [], .list 190 q3f []]⟩), (19, ⟨[1, 2, 3, 4, 6], sha, [hh3, .cells 49 0 shb, .cells 49 0 shc, hh7, .list 2 yI [], .list 144 q30 [], .list 145 q2f [], .list 144 q30 []]⟩)], cp := [(3, [.bool], [34]), (9, [.bool], [52]), (13, [.bool], [74])] }
noncomputable def l2.f (K : Nat) : Nat → Int → Int → List q1k → List q32 → Option (List q32)
  | 0, _, _, _, _ => none
  | k + 1, a1, a2, a11, a24 => q1c (bif decide ((0 : Int) ≤ a1) && true then a11[a1.toNat]?.bind fun t => bif decide (a2 < (↑(List.length t.1) : Int)) then some (decide (a2 < (14 : Int))) else some false else none) fun t => bif t then bif decide ((0 : Int) ≤ a1) && true then a11[a1.toNat]?.bind fun t => bif decide ((0 : Int) ≤ a2) && true then t.1[a2.toNat]?.bind fun t => bif decide ((↑(0 : Nat) : Int) ≤ if (6 : Int) < (↑(List.length t.2.2.2.2.2) : Int) then (6 : Int) else (↑(List.length t.2.2.2.2.2) : Int)) && decide ((if (6 : Int) < (↑(List.length t.2.2.2.2.2) : Int) then (6 : Int) else (↑(List.length t.2.2.2.2.2) : Int)) ≤ (↑(List.length t.2.2.2.2.2) : Int)) && true then bif (a24.length + [(t.1, t.2.1, t.2.2.1, t.2.2.2.1, t.2.2.2.2.1, List.drop (0 : Nat) (List.take (if (6 : Int) < (↑(List.length t.2.2.2.2.2) : Int) then (6 : Int) else (↑(List.length t.2.2.2.2.2) : Int)).toNat t.2.2.2.2.2))].length).ble (1000000 : Nat) then l2.f K k a1 (IntKind.i64.wrap (a2 + (1 : Int))) a11 (a24 ++ [(t.1, t.2.1, t.2.2.1, t.2.2.2.1, t.2.2.2.2.1, List.drop (0 : Nat) (List.take (if (6 : Int) < (↑(List.length t.2.2.2.2.2) : Int) then (6 : Int) else (↑(List.length t.2.2.2.2.2) : Int)).toNat t.2.2.2.2.2))]) else none else none else none else none else some a24
noncomputable def l2.b (K : Nat) : Lp M 0 := q2d (X K) 13 113 4 (q0o Tryz.f53 2) ⟨[1, 2, 3, 4, 5, 6, 7, 8, 9], (.cons (.ptr 0 0) (.cons (.ptr 1 0) (.cons (.ptr 2 0) (.cons (.ty yI) (.cons (.ptr 3 0) (.cons (.ptr 4 0) (.cons (.ty yI) (.cons (.ptr 5 0) (.ty yI))))))))), hsd⟩ ⟨[1, 2, 3, 4, 5, 6, 7, 8], sh1, hsd⟩ K [] (fun k x => l2.f K k x.1.2.2.2.2.2.2.1 x.1.2.2.2.2.2.2.2.2 x.2.2.2.2.1.2.2.2 x.2.2.2.2.2.2.2.2.2.2.2.2.1) (fun x r => (((), (), (), x.1.2.2.2.1, (), (), x.1.2.2.2.2.2.2.1, ()), x.2.1, ((), (), ()), x.2.2.2.1, x.2.2.2.2.1, x.2.2.2.2.2.1, x.2.2.2.2.2.2.1, x.2.2.2.2.2.2.2.1, x.2.2.2.2.2.2.2.2.1, x.2.2.2.2.2.2.2.2.2.1, x.2.2.2.2.2.2.2.2.2.2.1, x.2.2.2.2.2.2.2.2.2.2.2.1, r, ())) fun k x => by
  rw [q0b, l2.f]
  try simp only [el]
  kernel_rfl
noncomputable def l1.f (K : Nat) : Nat → Int → List q1k → List q1k → Option (List q1k)
  | 0, _, _, _ => none
  | k + 1, a1, a10, a18 => q1c (bif decide (a1 < (↑a10.length : Int)) then some (decide (a1 < (14 : Int))) else some false) fun t => bif t then bif decide ((0 : Int) ≤ a1) && true then a10[a1.toNat]?.bind fun t => (l2.f K K a1 (0 : Int) a10 []).bind fun t_1 => bif (a18.length + [(t_1, t.2.1, t.2.2.1, t.2.2.2.1, t.2.2.2.2)].length).ble (1000000 : Nat) then l1.f K k (IntKind.i64.wrap (a1 + (1 : Int))) a10 (a18 ++ [(t_1, t.2.1, t.2.2.1, t.2.2.2.1, t.2.2.2.2)]) else none else none else some a18
noncomputable def l1.b (K : Nat) : Lp M 0 := q2d (X K) 9 113 2 (q0o Tryz.f53 1) ⟨[1, 2, 3, 4, 5, 6, 7], (.cons (.ptr 0 0) (.cons (.ptr 1 0) (.cons (.ptr 2 0) (.cons (.ty yI) (.cons (.ptr 3 0) (.cons (.ptr 4 0) (.ty yI))))))), [hh3, .cells 49 0 she, .cells 49 0 (.cons (.ty (.slice yI)) (.cons (.own 8) (.ty (.slice q2f)))), hh7, .cells 144 0 (.cons (.ty .str) (.cons (.ty yI) (.cons (.ty yI) (.own 9)))), .list 2 yI [], .list 144 q30 [], .list 145 q2f [], .list 144 q30 [], .list 190 q3f []]⟩ ⟨[1, 2, 3, 4, 6], sha, [hh3, .cells 49 0 shb, .cells 49 0 shc, .cells 144 0 (.cons (.ty .str) (.cons (.ty yI) (.cons (.ty yI) (.own 8)))), .list 2 yI [], .list 144 q30 [], .list 145 q2f [], .list 144 q30 [], .list 190 q3f []]⟩ K [l2.b K] (fun k x => l1.f K k x.1.2.2.2.2.2.2 x.2.2.2.2.1.2.2.2 x.2.2.2.2.2.2.2.2.2.2.1) (fun x r => (((), (), (), x.1.2.2.2.1, ()), x.2.1, ((), (), ()), x.2.2.2.1, x.2.2.2.2.2.1, x.2.2.2.2.2.2.1, x.2.2.2.2.2.2.2.1, x.2.2.2.2.2.2.2.2.1, x.2.2.2.2.2.2.2.2.2.1, r, ())) fun k x => by
  rw [q0b, l1.f]
  try simp only [el]
  kernel_rfl
noncomputable def l0.f (K : Nat) : Nat → Int → List q0t → List q0t → Option (List q0t)
  | 0, _, _, _ => none
  | k + 1, a0, a2, a9 => q1c (bif decide (a0 < (↑a2.length : Int)) then some (decide (a0 < (30 : Int))) else some false) fun t => bif t then bif decide ((0 : Int) ≤ a0) && true then a2[a0.toNat]?.bind fun t => (l1.f K K (0 : Int) t.2.2.2 []).bind fun t_1 => bif (a9.length + [(t.1, t.2.1, t.2.2.1, t_1)].length).ble (1000000 : Nat) then l0.f K k (IntKind.i64.wrap (a0 + (1 : Int))) a2 (a9 ++ [(t.1, t.2.1, t.2.2.1, t_1)]) else none else none else some a9
noncomputable def l0.b (K : Nat) : Lp M 0 := q2d (X K) 3 113 0 (q0o Tryz.f53 0) ⟨[1, 2, 3, 4], shf, [hh3, .cells 49 0 sh10, .cells 49 0 (.cons (.ty (.slice yI)) (.cons (.own 6) (.ty (.slice q2f)))), .list 2 yI [], .list 144 q30 [], .list 145 q2f [], .list 144 q30 []]⟩ ⟨[2, 3], sh11, [.cells 49 0 sh12, .cells 49 0 (.cons (.ty (.slice yI)) (.cons (.own 5) (.ty (.slice q2f)))), .list 2 yI [], .list 144 q30 [], .list 145 q2f [], .list 144 q30 []]⟩ K [l1.b K, l2.b K] (fun k x => l0.f K k x.1.2.2.2 x.2.1.2.1 x.2.2.2.2.2.2.2.1) (fun x r => (((), ()), ((), (), ()), x.2.2.2.1, x.2.2.2.2.1, x.2.2.2.2.2.1, x.2.2.2.2.2.2.1, r, ())) fun k x => by
  rw [q0b, l0.f]
  try simp only [el]
  kernel_rfl
noncomputable def f (K : Nat) (a0 : List Int) (a1 : List q0t) (a2 : List q0h) : Option (List Int × List q0t × List q0h) := bif decide ((↑(0 : Nat) : Int) ≤ if (20 : Int) < (↑a0.length : Int) then (20 : Int) else (↑a0.length : Int)) && decide ((if (20 : Int) < (↑a0.length : Int) then (20 : Int) else (↑a0.length : Int)) ≤ (↑a0.length : Int)) && true then bif decide ((↑(0 : Nat) : Int) ≤ if (30 : Int) < (↑a2.length : Int) then (30 : Int) else (↑a2.length : Int)) && decide ((if (30 : Int) < (↑a2.length : Int) then (30 : Int) else (↑a2.length : Int)) ≤ (↑a2.length : Int)) && true then (l0.f K K (0 : Int) a1 []).bind fun t => some (List.drop (0 : Nat) (List.take (if (20 : Int) < (↑a0.length : Int) then (20 : Int) else (↑a0.length : Int)).toNat a0), t, List.drop (0 : Nat) (List.take (if (30 : Int) < (↑a2.length : Int) then (30 : Int) else (↑a2.length : Int)).toNat a2)) else none else none
noncomputable def e (K : Nat) : En M := fnE (X K) 53 Tryz.func53 ⟨sh0, [], sh0, []⟩ [l0.b K, l1.b K, l2.b K] (fun x => f K x.1.1 x.1.2.1 x.1.2.2) (fun x r => ((r.1, r.2.1, r.2.2), ())) fun x => by
  rw [q0b, f]
  try simp only [el]
  kernel_rfl
end q14
namespace q12
noncomputable def f (K : Nat) (a1 : List q0t) (a2 : List q0h) : Option (Int) := some (IntKind.i64.wrap ((↑a1.length : Int) + (↑a2.length : Int)))
noncomputable def e (K : Nat) : En M := fnE (m := 0) { hmx := mxd, nt := 10, cs := [] } 98 Tryz.func98 ⟨sh0, [], (.ty yI), []⟩ [] (fun x => f K x.1.2.1 x.1.2.2) (fun x r => (r, ())) fun x => by
  rw [q0b, f]
  try simp only [el]
  kernel_rfl
end q12
namespace q26
noncomputable def X (K : Nat) : Fx M 0 := { hmx := mxd, nt := 50, cs := [], cp := [(1, [.bool], [21]), (6, [.bool], [49])] }
noncomputable def l0.f (K : Nat) : Nat → ByteArray → Int → Option ((Unit) ⊕ (Bool))
  | 0, _, _ => none
  | k + 1, a0, a1 => bif decide (a1 < (↑a0.size : Int)) then q1c (bif decide ((0 : Int) ≤ a1) then bif a1.toNat.blt a0.size then bif decide ((↑(a0[a1.toNat]?.getD (0 : UInt8)).toNat : Int) < (97 : Int)) then bif decide ((0 : Int) ≤ a1) then bif a1.toNat.blt a0.size then bif decide ((↑(a0[a1.toNat]?.getD (0 : UInt8)).toNat : Int) < (48 : Int)) then some true else bif decide ((0 : Int) ≤ a1) then bif a1.toNat.blt a0.size then some (decide ((↑(a0[a1.toNat]?.getD (0 : UInt8)).toNat : Int) > (57 : Int))) else none else none else none else none else bif decide ((0 : Int) ≤ a1) then bif a1.toNat.blt a0.size then bif decide ((↑(a0[a1.toNat]?.getD (0 : UInt8)).toNat : Int) > (122 : Int)) then bif decide ((0 : Int) ≤ a1) then bif a1.toNat.blt a0.size then bif decide ((↑(a0[a1.toNat]?.getD (0 : UInt8)).toNat : Int) < (48 : Int)) then some true else bif decide ((0 : Int) ≤ a1) then bif a1.toNat.blt a0.size then some (decide ((↑(a0[a1.toNat]?.getD (0 : UInt8)).toNat : Int) > (57 : Int))) else none else none else none else none else some false else none else none else none else none) fun t => bif t then some (Sum.inr false) else l0.f K k a0 (IntKind.i64.wrap (a1 + (1 : Int))) else some (Sum.inl ())
noncomputable def l0.b (K : Nat) : Lp M 0 := q37 (X K) 4 50 0 (q0o Tryz.f99 0) ⟨[0, 3], (.cons (.ty .str) (.ty yI)), []⟩ ss13 ⟨[2], (.ty .bool), []⟩ K [] (fun k x => l0.f K k x.1.1 x.1.2) (fun x r => ((), ())) (fun x r => (r, ())) fun k x => by
  rw [q0b, l0.f]
  try simp only [el]
  kernel_rfl
noncomputable def f (K : Nat) (a0 : ByteArray) : Option (Bool) := q1c (bif decide ((↑a0.size : Int) < (1 : Int)) then some true else bif decide ((↑a0.size : Int) > (12 : Int)) then some true else bif Nat.blt (0 : Nat) a0.size then bif decide ((↑(a0[(0 : Nat)]?.getD (0 : UInt8)).toNat : Int) < (97 : Int)) then some true else bif Nat.blt (0 : Nat) a0.size then some (decide ((↑(a0[(0 : Nat)]?.getD (0 : UInt8)).toNat : Int) > (122 : Int))) else none else none) fun t => bif t then some false else (l0.f K K a0 (0 : Int)).bind fun t => Sum.elim (fun t => some true) (fun t => some t) t
noncomputable def e (K : Nat) : En M := fnE (X K) 99 Tryz.func99 ⟨(.ty .str), [], (.ty .bool), []⟩ [l0.b K] (fun x => f K x.1) (fun x r => (r, ())) fun x => by
  rw [q0b, f]
  try simp only [el]
  kernel_rfl
end q26
namespace q49
noncomputable def X (K : Nat) : Fx M 0 := { hmx := mxd, nt := 41, cs := [q12.e K], cp := [(1, [.bool], [13]), (3, [.bool], [30])] }
noncomputable def f (K : Nat) (a1 : List q0t) (a2 : List q0h) (a3 : Int) : Option (ByteArray) := q1c (bif decide (a3 ≥ (0 : Int)) then some (decide (a3 < (↑a1.length : Int))) else some false) fun t => bif t then bif decide ((0 : Int) ≤ a3) && true then a1[a3.toNat]?.bind fun t => some t.1 else none else q1c (bif decide (a3 ≥ (↑a1.length : Int)) then (q12.f K a1 a2).bind fun t => some (decide (a3 < t)) else some false) fun t => bif t then bif decide ((0 : Int) ≤ IntKind.i64.wrap (a3 - (↑a1.length : Int))) && true then a2[(IntKind.i64.wrap (a3 - (↑a1.length : Int))).toNat]?.bind fun t => some t.1 else none else some (ByteArray.mk #[])
noncomputable def e (K : Nat) : En M := fnE (X K) 158 Tryz.func158 ⟨sh14, [], (.ty .str), []⟩ [] (fun x => f K x.1.1.2.1 x.1.1.2.2 x.1.2) (fun x r => (r, ())) fun x => by
  rw [q0b, f]
  try simp only [el]
  kernel_rfl
end q49
namespace q24
noncomputable def X (K : Nat) : Fx M 0 := { hmx := mxd, nt := 18, cs := [q12.e K, q49.e K] }
noncomputable def l0.f (K : Nat) : Nat → ByteArray → Int → List q0t → List q0h → Option ((Unit) ⊕ (Int))
  | 0, _, _, _, _ => none
  | k + 1, a0, a1, a3, a4 => (q12.f K a3 a4).bind fun t => bif decide (a1 < t) then (q49.f K a3 a4 a1).bind fun t => bif t.toList == a0.toList then some (Sum.inr a1) else l0.f K k a0 (IntKind.i64.wrap (a1 + (1 : Int))) a3 a4 else some (Sum.inl ())
noncomputable def l0.b (K : Nat) : Lp M 0 := q37 (X K) 2 18 0 (q0o Tryz.f100 0) ⟨[1, 2, 5], (.cons (.ty .str) (.cons (.ptr 0 0) (.ty yI))), [hh3]⟩ ss13 ⟨[4], (.ty yI), []⟩ K [] (fun k x => l0.f K k x.1.1 x.1.2.2 x.2.1.2.1 x.2.1.2.2) (fun x r => ((), ())) (fun x r => (r, ())) fun k x => by
  rw [q0b, l0.f]
  try simp only [el]
  kernel_rfl
noncomputable def f (K : Nat) (a1 : List q0t) (a2 : List q0h) (a3 : ByteArray) : Option (Int) := (l0.f K K a3 (0 : Int) a1 a2).bind fun t => Sum.elim (fun t => some (-1 : Int)) (fun t => some t) t
noncomputable def e (K : Nat) : En M := fnE (X K) 100 Tryz.func100 ⟨sh15, [], (.ty yI), []⟩ [l0.b K] (fun x => f K x.1.1.2.1 x.1.1.2.2 x.1.2) (fun x r => (r, ())) fun x => by
  rw [q0b, f]
  try simp only [el]
  kernel_rfl
end q24
namespace q3h
noncomputable def X (K : Nat) : Fx M 0 := { hmx := mxd, nt := 17, cs := [], cp := [(1, [.bool], [2])] }
noncomputable def f (K : Nat) (a0 : Int) : Option (Bool) := q1c (bif decide (a0 ≥ (1 : Int)) then bif decide (a0 ≤ (13 : Int)) then some true else bif a0 == (15 : Int) then some true else some (a0 == (17 : Int)) else bif a0 == (15 : Int) then some true else some (a0 == (17 : Int))) fun t => some t
noncomputable def e (K : Nat) : En M := fnE (X K) 103 Tryz.func103 ⟨(.ty yI), [], (.ty .bool), []⟩ [] (fun x => f K x.1) (fun x r => (r, ())) fun x => by
  rw [q0b, f]
  try simp only [el]
  kernel_rfl
end q3h
namespace q3g
noncomputable def X (K : Nat) : Fx M 0 := { hmx := mxd, nt := 17, cs := [], cp := [(1, [.bool], [2])] }
noncomputable def f (K : Nat) (a0 : Int) : Option (Bool) := q1c (bif decide (a0 ≥ (2 : Int)) then bif decide (a0 ≤ (12 : Int)) then some true else bif a0 == (14 : Int) then some true else some (a0 == (16 : Int)) else bif a0 == (14 : Int) then some true else some (a0 == (16 : Int))) fun t => some t
noncomputable def e (K : Nat) : En M := fnE (X K) 159 Tryz.func159 ⟨(.ty yI), [], (.ty .bool), []⟩ [] (fun x => f K x.1) (fun x r => (r, ())) fun x => by
  rw [q0b, f]
  try simp only [el]
  kernel_rfl
end q3g
namespace q15
noncomputable def X (K : Nat) : Fx M 0 := { hmx := mxd, nt := 9, cs := [], cp := [(1, [.bool], [2])] }
noncomputable def f (K : Nat) (a0 : Int) : Option (Bool) := q1c (bif decide (a0 ≥ (4 : Int)) then some (decide (a0 ≤ (12 : Int))) else some false) fun t => some t
noncomputable def e (K : Nat) : En M := fnE (X K) 160 Tryz.func160 ⟨(.ty yI), [], (.ty .bool), []⟩ [] (fun x => f K x.1) (fun x r => (r, ())) fun x => by
  rw [q0b, f]
  try simp only [el]
  kernel_rfl
end q15
namespace q1u
noncomputable def X (K : Nat) : Fx M 0 := { hmx := mxd, nt := 12, cs := [], cp := [(1, [.bool], [4])] }
noncomputable def f (K : Nat) (a0 : Int) (a1 : Int) : Option (Bool) := q1c (bif decide (a1 ≥ (0 : Int)) then some (decide (a1 < a0)) else some false) fun t => some t
noncomputable def e (K : Nat) : En M := fnE (X K) 161 Tryz.func161 ⟨(.cons (.ty yI) (.ty yI)), [], (.ty .bool), []⟩ [] (fun x => f K x.1.1 x.1.2) (fun x r => (r, ())) fun x => by
  rw [q0b, f]
  try simp only [el]
  kernel_rfl
end q1u
namespace q42
noncomputable def X (K : Nat) : Fx M 0 := { hmx := mxd, nt := 41, cs := [q12.e K], cp := [(1, [.bool], [13]), (3, [.bool], [30])] }
noncomputable def f (K : Nat) (a1 : List q0t) (a2 : List q0h) (a3 : Int) : Option (Int) := q1c (bif decide (a3 ≥ (0 : Int)) then some (decide (a3 < (↑a1.length : Int))) else some false) fun t => bif t then bif decide ((0 : Int) ≤ a3) && true then a1[a3.toNat]?.bind fun t => some t.2.1 else none else q1c (bif decide (a3 ≥ (↑a1.length : Int)) then (q12.f K a1 a2).bind fun t => some (decide (a3 < t)) else some false) fun t => bif t then bif decide ((0 : Int) ≤ IntKind.i64.wrap (a3 - (↑a1.length : Int))) && true then a2[(IntKind.i64.wrap (a3 - (↑a1.length : Int))).toNat]?.bind fun t => some t.2 else none else some (-1 : Int)
noncomputable def e (K : Nat) : En M := fnE (X K) 162 Tryz.func162 ⟨sh14, [], (.ty yI), []⟩ [] (fun x => f K x.1.1.2.1 x.1.1.2.2 x.1.2) (fun x r => (r, ())) fun x => by
  rw [q0b, f]
  try simp only [el]
  kernel_rfl
end q42
namespace q3e
noncomputable def X (K : Nat) : Fx M 0 := { hmx := mxd, nt := 180, cs := [q3h.e K, q3g.e K, q15.e K, q1u.e K, q12.e K, q42.e K], cp := [(1, [.bool], [17]), (3, [.bool], [7]), (4, [.bool], [86]), (7, [.bool], [122]), (9, [.bool], [143]), (13, [.bool], [156])] }
noncomputable def l0.f (K : Nat) : Nat → Int → Int → List Int → Option ((Unit) ⊕ (Int))
  | 0, _, _, _ => none
  | k + 1, a0, a1, a7 => bif decide (a1 < (↑a7.length : Int)) then bif decide ((0 : Int) ≤ a1) && true then a7[a1.toNat]?.bind fun t => (q1u.f K a0 t).bind fun t => bif !t then some (Sum.inr (9 : Int)) else l0.f K k a0 (IntKind.i64.wrap (a1 + (1 : Int))) a7 else none else some (Sum.inl ())
noncomputable def l0.b (K : Nat) : Lp M 0 := q37 (X K) 18 180 0 (q0o Tryz.f101 0) ⟨[5, 8, 9], sh17, [.cells 186 0 sh18]⟩ ss13 ⟨[6], (.ty yI), []⟩ K [] (fun k x => l0.f K k x.1.2.1 x.1.2.2 x.2.1.2.2.2.2.2) (fun x r => ((), ())) (fun x r => (r, ())) fun k x => by
  rw [q0b, l0.f]
  try simp only [el]
  kernel_rfl
noncomputable def f (K : Nat) (a0 : List Int) (a1 : List q0t) (a2 : List q0h) (a5 : Int) (a7 : Int) (a8 : Int) (a9 : Int) (a10 : Int) (a11 : Int) (a12 : List Int) : Option (Int) := q1c (bif decide (a7 < (1 : Int)) then some true else some (decide (a7 > (17 : Int)))) fun t => bif t then some (5 : Int) else q1c (bif a7 == (13 : Int) then some true else bif a7 == (14 : Int) then some true else some (a7 == (17 : Int))) fun t => q1c ((q3h.f K a7).bind fun t_1 => bif !t_1 then bif a8 != (0 : Int) then some true else (q3g.f K a7).bind fun t_2 => bif !t_2 then bif a9 != (0 : Int) then some true else (q15.f K a7).bind fun t_3 => bif !t_3 then bif !t then bif a10 != (0 : Int) then some true else bif a7 != (1 : Int) then bif a11 != (0 : Int) then some true else bif a7 != (17 : Int) then some (decide ((↑a12.length : Int) > (0 : Int))) else some false else bif a7 != (17 : Int) then some (decide ((↑a12.length : Int) > (0 : Int))) else some false else bif a7 != (1 : Int) then bif a11 != (0 : Int) then some true else bif a7 != (17 : Int) then some (decide ((↑a12.length : Int) > (0 : Int))) else some false else bif a7 != (17 : Int) then some (decide ((↑a12.length : Int) > (0 : Int))) else some false else bif a7 != (1 : Int) then bif a11 != (0 : Int) then some true else bif a7 != (17 : Int) then some (decide ((↑a12.length : Int) > (0 : Int))) else some false else bif a7 != (17 : Int) then some (decide ((↑a12.length : Int) > (0 : Int))) else some false else (q15.f K a7).bind fun t_3 => bif !t_3 then bif !t then bif a10 != (0 : Int) then some true else bif a7 != (1 : Int) then bif a11 != (0 : Int) then some true else bif a7 != (17 : Int) then some (decide ((↑a12.length : Int) > (0 : Int))) else some false else bif a7 != (17 : Int) then some (decide ((↑a12.length : Int) > (0 : Int))) else some false else bif a7 != (1 : Int) then bif a11 != (0 : Int) then some true else bif a7 != (17 : Int) then some (decide ((↑a12.length : Int) > (0 : Int))) else some false else bif a7 != (17 : Int) then some (decide ((↑a12.length : Int) > (0 : Int))) else some false else bif a7 != (1 : Int) then bif a11 != (0 : Int) then some true else bif a7 != (17 : Int) then some (decide ((↑a12.length : Int) > (0 : Int))) else some false else bif a7 != (17 : Int) then some (decide ((↑a12.length : Int) > (0 : Int))) else some false else (q3g.f K a7).bind fun t_2 => bif !t_2 then bif a9 != (0 : Int) then some true else (q15.f K a7).bind fun t_3 => bif !t_3 then bif !t then bif a10 != (0 : Int) then some true else bif a7 != (1 : Int) then bif a11 != (0 : Int) then some true else bif a7 != (17 : Int) then some (decide ((↑a12.length : Int) > (0 : Int))) else some false else bif a7 != (17 : Int) then some (decide ((↑a12.length : Int) > (0 : Int))) else some false else bif a7 != (1 : Int) then bif a11 != (0 : Int) then some true else bif a7 != (17 : Int) then some (decide ((↑a12.length : Int) > (0 : Int))) else some false else bif a7 != (17 : Int) then some (decide ((↑a12.length : Int) > (0 : Int))) else some false else bif a7 != (1 : Int) then bif a11 != (0 : Int) then some true else bif a7 != (17 : Int) then some (decide ((↑a12.length : Int) > (0 : Int))) else some false else bif a7 != (17 : Int) then some (decide ((↑a12.length : Int) > (0 : Int))) else some false else (q15.f K a7).bind fun t_3 => bif !t_3 then bif !t then bif a10 != (0 : Int) then some true else bif a7 != (1 : Int) then bif a11 != (0 : Int) then some true else bif a7 != (17 : Int) then some (decide ((↑a12.length : Int) > (0 : Int))) else some false else bif a7 != (17 : Int) then some (decide ((↑a12.length : Int) > (0 : Int))) else some false else bif a7 != (1 : Int) then bif a11 != (0 : Int) then some true else bif a7 != (17 : Int) then some (decide ((↑a12.length : Int) > (0 : Int))) else some false else bif a7 != (17 : Int) then some (decide ((↑a12.length : Int) > (0 : Int))) else some false else bif a7 != (1 : Int) then bif a11 != (0 : Int) then some true else bif a7 != (17 : Int) then some (decide ((↑a12.length : Int) > (0 : Int))) else some false else bif a7 != (17 : Int) then some (decide ((↑a12.length : Int) > (0 : Int))) else some false) fun t => bif t then some (3 : Int) else q1c ((q3h.f K a7).bind fun t => bif t then (q1u.f K a5 a8).bind fun t => bif !t then some true else (q3g.f K a7).bind fun t => bif t then (q1u.f K a5 a9).bind fun t => bif !t then some true else (q15.f K a7).bind fun t => bif t then (q1u.f K a5 a10).bind fun t => some !t else some false else (q15.f K a7).bind fun t => bif t then (q1u.f K a5 a10).bind fun t => some !t else some false else (q3g.f K a7).bind fun t => bif t then (q1u.f K a5 a9).bind fun t => bif !t then some true else (q15.f K a7).bind fun t => bif t then (q1u.f K a5 a10).bind fun t => some !t else some false else (q15.f K a7).bind fun t => bif t then (q1u.f K a5 a10).bind fun t => some !t else some false) fun t => bif t then some (9 : Int) else q1c (bif a7 == (13 : Int) then bif decide (a10 < (0 : Int)) then some true else some (decide (a10 ≥ (↑a0.length : Int))) else bif a7 == (14 : Int) then bif decide (a10 < (0 : Int)) then some true else some (decide (a10 ≥ (↑a0.length : Int))) else some false) fun t => bif t then some (4 : Int) else bif a7 != (17 : Int) then some (0 : Int) else q1c (bif decide (a10 < (0 : Int)) then some true else (q12.f K a1 a2).bind fun t => some (decide (a10 ≥ t))) fun t => bif t then some (7 : Int) else (q42.f K a1 a2 a10).bind fun t => bif (↑a12.length : Int) != t then some (10 : Int) else (l0.f K K a5 (0 : Int) a12).bind fun t => Sum.elim (fun t => some (0 : Int)) (fun t => some t) t
noncomputable def e (K : Nat) : En M := fnE (X K) 101 Tryz.func101 ⟨sh16, [], (.ty yI), []⟩ [l0.b K] (fun x => f K x.1.1.1 x.1.1.2.1 x.1.1.2.2 x.1.2.1.2.2.1 x.1.2.2.1 x.1.2.2.2.1 x.1.2.2.2.2.1 x.1.2.2.2.2.2.1 x.1.2.2.2.2.2.2.1 x.1.2.2.2.2.2.2.2) (fun x r => (r, ())) fun x => by
  rw [q0b, f]
  try simp only [el]
  kernel_rfl
end q3e
namespace q5r
noncomputable def X (K : Nat) : Fx M 0 := { hmx := mxd, nt := 90, cs := [], cp := [(1, [.bool], [12]), (3, [.bool], [40]), (5, [.bool], [55]), (7, [.bool], [89])] }
noncomputable def f (K : Nat) (a2 : Int) (a3 : List q1k) (a4 : Int) (a5 : Int) (a6 : Int) (a7 : Int) : Option (Int) := q1c (bif decide (a4 < (1 : Int)) then some true else some (decide (a4 > (3 : Int)))) fun t => bif t then some (5 : Int) else q1c (bif a4 == (1 : Int) then bif a5 != (0 : Int) then some true else bif a4 == (3 : Int) then bif a6 != (0 : Int) then some true else bif a4 != (2 : Int) then some (a7 != (0 : Int)) else some false else bif a4 != (2 : Int) then some (a7 != (0 : Int)) else some false else bif a4 == (3 : Int) then bif a6 != (0 : Int) then some true else bif a4 != (2 : Int) then some (a7 != (0 : Int)) else some false else bif a4 != (2 : Int) then some (a7 != (0 : Int)) else some false) fun t => bif t then some (3 : Int) else q1c (bif a4 != (1 : Int) then bif decide (a5 < (0 : Int)) then some true else some (decide (a5 ≥ a2)) else some false) fun t => bif t then some (9 : Int) else q1c (bif a4 != (3 : Int) then bif decide (a6 < (0 : Int)) then some true else bif decide (a6 ≥ (↑a3.length : Int)) then some true else bif a4 == (2 : Int) then bif decide (a7 < (0 : Int)) then some true else some (decide (a7 ≥ (↑a3.length : Int))) else some false else bif a4 == (2 : Int) then bif decide (a7 < (0 : Int)) then some true else some (decide (a7 ≥ (↑a3.length : Int))) else some false) fun t => bif t then some (8 : Int) else some (0 : Int)
noncomputable def e (K : Nat) : En M := fnE (X K) 102 Tryz.func102 ⟨sh19, [], (.ty yI), []⟩ [] (fun x => f K x.1.1.2.2.1 x.1.1.2.2.2 x.1.2.1 x.1.2.2.1 x.1.2.2.2.1 x.1.2.2.2.2) (fun x r => (r, ())) fun x => by
  rw [q0b, f]
  try simp only [el]
  kernel_rfl
end q5r
namespace q1b
noncomputable def X (K : Nat) : Fx M 0 := { hmx := mxd, nt := 199, cs := [q12.e K, q26.e K, q24.e K, q3e.e K, q5r.e K], cp := [(1, [.bool], [22]), (11, [.bool], [56]), (13, [.bool], [73]), (15, [.bool], [85]), (39, [.bool], [179]), (43, [.bool], [197])] }
noncomputable def l3.f (K : Nat) : Nat → Int → List q0t → List q0h → Option ((Unit) ⊕ (Int × List Int))
  | 0, _, _, _ => none
  | k + 1, a0, a2, a3 => bif decide (a0 < (↑a3.length : Int)) then bif decide ((0 : Int) ≤ a0) && true then a3[a0.toNat]?.bind fun t => (q26.f K t.1).bind fun t_1 => bif !t_1 then some (Sum.inr ((6 : Int), [IntKind.i64.wrap ((↑a2.length : Int) + a0)])) else q1c (bif decide (a0 > (0 : Int)) then bif decide ((0 : Int) ≤ IntKind.i64.wrap (a0 - (1 : Int))) && true then a3[(IntKind.i64.wrap (a0 - (1 : Int))).toNat]?.bind fun t_2 => some (Op.bytesLess (ByteArray.toList t.1) (ByteArray.toList t_2.1) || ByteArray.toList t.1 == ByteArray.toList t_2.1) else none else some false) fun t_2 => bif t_2 then some (Sum.inr ((3 : Int), [IntKind.i64.wrap ((↑a2.length : Int) + a0)])) else (q24.f K a2 a3 t.1).bind fun t_3 => bif decide (t_3 < (↑a2.length : Int)) then some (Sum.inr ((7 : Int), [IntKind.i64.wrap ((↑a2.length : Int) + a0)])) else q1c (bif decide (t.2 < (0 : Int)) then some true else some (decide (t.2 > (4 : Int)))) fun t => bif t then some (Sum.inr ((10 : Int), [IntKind.i64.wrap ((↑a2.length : Int) + a0)])) else l3.f K k (IntKind.i64.wrap (a0 + (1 : Int))) a2 a3 else none else some (Sum.inl ())
noncomputable def l3.b (K : Nat) : Lp M 0 := q37 (X K) 33 199 6 (q0o Tryz.f54 3) ⟨[1, 11], sh1b, [hh3]⟩ ss13 ⟨[2, 3], sh1c, hs1d⟩ K [] (fun k x => l3.f K k x.1.2 x.2.1.2.1 x.2.1.2.2) (fun x r => ((), ())) (fun x r => ((r.1, ()), r.2, ())) fun k x => by
  rw [q0b, l3.f]
  try simp only [el]
  kernel_rfl
noncomputable def l2.f (K : Nat) : Nat → Int → Int → List q32 → Int → List Int → List q0t → List q0h → Int → Option ((Unit) ⊕ (Int × List Int))
  | 0, _, _, _, _, _, _, _, _ => none
  | k + 1, a0, a1, a2, a3, a4, a5, a6, a9 => bif decide (a3 < (↑a2.length : Int)) then bif decide ((0 : Int) ≤ a3) && true then a2[a3.toNat]?.bind fun t => (q3e.f K a4 a5 a6 a9 t.1 t.2.1 t.2.2.1 t.2.2.2.1 t.2.2.2.2.1 t.2.2.2.2.2).bind fun t => bif t != (0 : Int) then some (Sum.inr (t, [a0, a1, a3])) else l2.f K k a0 a1 a2 (IntKind.i64.wrap (a3 + (1 : Int))) a4 a5 a6 a9 else none else some (Sum.inl ())
noncomputable def l2.b (K : Nat) : Lp M 0 := q37 (X K) 24 199 4 (q0o Tryz.f54 2) ⟨[1, 4, 5, 6, 7, 8], (.cons (.ptr 0 0) (.cons (.ty yI) (.cons (.ptr 1 0) (.cons (.ty yI) (.cons (.ty (.slice q69)) (.ty yI)))))), [hh3, hh7]⟩ ⟨[1, 4, 5, 6, 7], (.cons (.ptr 0 0) (.cons (.ty yI) (.cons (.ptr 1 0) (.cons (.ty yI) (.ty (.slice q69)))))), [hh3, hh7]⟩ ⟨[2, 3], sh1c, hs1d⟩ K [] (fun k x => l2.f K k x.1.2.1 x.1.2.2.2.1 x.1.2.2.2.2.1 x.1.2.2.2.2.2 x.2.1.1 x.2.1.2.1 x.2.1.2.2 x.2.2.1.2.2.1) (fun x r => (((), x.1.2.1, (), x.1.2.2.2.1, x.1.2.2.2.2.1), x.2)) (fun x r => ((r.1, ()), r.2, ())) fun k x => by
  rw [q0b, l2.f]
  try simp only [el]
  kernel_rfl
noncomputable def l1.f (K : Nat) : Nat → Int → Int → List Int → List q0t → List q0h → Int → List q1k → Option ((Unit) ⊕ (Int × List Int))
  | 0, _, _, _, _, _, _, _ => none
  | k + 1, a0, a1, a2, a3, a4, a7, a8 => bif decide (a1 < (↑a8.length : Int)) then bif decide ((0 : Int) ≤ a1) && true then a8[a1.toNat]?.bind fun t => bif decide ((↑(List.length t.1) : Int) > (12 : Int)) then some (Sum.inr ((11 : Int), [a0, a1])) else (l2.f K K a0 a1 t.1 (0 : Int) a2 a3 a4 a7).bind fun t_1 => Sum.elim (fun t_2 => bif decide ((0 : Int) ≤ a1) && true then a8[a1.toNat]?.bind fun t_3 => (q5r.f K a7 a8 t_3.2.1 t_3.2.2.1 t_3.2.2.2.1 t_3.2.2.2.2).bind fun t_4 => bif t_4 != (0 : Int) then some (Sum.inr (t_4, [a0, a1, (↑(List.length t.1) : Int)])) else l1.f K k a0 (IntKind.i64.wrap (a1 + (1 : Int))) a2 a3 a4 a7 a8 else none) (fun t => some (Sum.inr (t.1, t.2))) t_1 else none else some (Sum.inl ())
noncomputable def l1.b (K : Nat) : Lp M 0 := q37 (X K) 18 199 2 (q0o Tryz.f54 1) ⟨[1, 4, 5, 6], (.cons (.ptr 0 0) (.cons (.ty yI) (.cons (.ptr 1 0) (.ty yI)))), [hh3, hh7]⟩ ⟨[1, 4], sh1b, [hh3]⟩ ⟨[2, 3], sh1c, hs1d⟩ K [l2.b K] (fun k x => l1.f K k x.1.2.1 x.1.2.2.2 x.2.1.1 x.2.1.2.1 x.2.1.2.2 x.2.2.1.2.2.1 x.2.2.1.2.2.2) (fun x r => (((), x.1.2.1), x.2.1, ())) (fun x r => ((r.1, ()), r.2, ())) fun k x => by
  rw [q0b, l1.f]
  try simp only [el]
  kernel_rfl
noncomputable def l0.f (K : Nat) : Nat → Int → List Int → List q0t → List q0h → Option ((Unit) ⊕ (Int × List Int))
  | 0, _, _, _, _ => none
  | k + 1, a0, a1, a2, a3 => bif decide (a0 < (↑a2.length : Int)) then bif decide ((0 : Int) ≤ a0) && true then a2[a0.toNat]?.bind fun t => (q26.f K t.1).bind fun t_1 => bif !t_1 then some (Sum.inr ((6 : Int), [a0])) else (q24.f K a2 a3 t.1).bind fun t_2 => bif decide (t_2 < a0) then some (Sum.inr ((7 : Int), [a0])) else q1c (bif decide (t.2.1 < (0 : Int)) then some true else some (decide (t.2.1 > (4 : Int)))) fun t_3 => bif t_3 then some (Sum.inr ((10 : Int), [a0])) else q1c (bif decide (t.2.2.1 < (1 : Int)) then some true else bif decide (t.2.2.1 > (8 : Int)) then some true else some (decide (t.2.2.1 < t.2.1))) fun t_4 => bif t_4 then some (Sum.inr ((9 : Int), [a0])) else q1c (bif decide ((↑(List.length t.2.2.2) : Int) < (1 : Int)) then some true else some (decide ((↑(List.length t.2.2.2) : Int) > (12 : Int)))) fun t_5 => bif t_5 then some (Sum.inr ((11 : Int), [a0])) else (l1.f K K a0 (0 : Int) a1 a2 a3 t.2.2.1 t.2.2.2).bind fun t => Sum.elim (fun t => l0.f K k (IntKind.i64.wrap (a0 + (1 : Int))) a1 a2 a3) (fun t => some (Sum.inr (t.1, t.2))) t else none else some (Sum.inl ())
noncomputable def l0.b (K : Nat) : Lp M 0 := q37 (X K) 4 199 0 (q0o Tryz.f54 0) ⟨[1, 4], sh1b, [hh3]⟩ ⟨[1], (.ptr 0 0), [hh3]⟩ ⟨[2, 3], sh1c, hs1d⟩ K [l1.b K, l2.b K] (fun k x => l0.f K k x.1.2 x.2.1.1 x.2.1.2.1 x.2.1.2.2) (fun x r => ((), x.2)) (fun x r => ((r.1, ()), r.2, ())) fun k x => by
  rw [q0b, l0.f]
  try simp only [el]
  kernel_rfl
noncomputable def f (K : Nat) (a0 : List Int) (a1 : List q0t) (a2 : List q0h) : Option (Int × List Int) := q1c (bif decide ((↑a0.length : Int) > (16 : Int)) then some true else (q12.f K a1 a2).bind fun t => some (decide (t > (24 : Int)))) fun t => bif t then some ((11 : Int), []) else (l0.f K K (0 : Int) a0 a1 a2).bind fun t => Sum.elim (fun t => (l3.f K K (0 : Int) a1 a2).bind fun t => Sum.elim (fun t => some ((0 : Int), [])) (fun t => some (t.1, t.2)) t) (fun t => some (t.1, t.2)) t
noncomputable def e (K : Nat) : En M := fnE (X K) 54 Tryz.func54 ⟨sh0, [], sh1a, []⟩ [l0.b K, l1.b K, l2.b K, l3.b K] (fun x => f K x.1.1 x.1.2.1 x.1.2.2) (fun x r => ((r.1, r.2), ())) fun x => by
  rw [q0b, f]
  try simp only [el]
  kernel_rfl
end q1b
namespace q06
noncomputable def X (K : Nat) : Fx M 0 := { hmx := mxd, nt := 73, cs := [q3h.e K] }
noncomputable def l3.f (K : Nat) : Nat → Int → Int → List q32 → Int → List (Int × q97) → Option ((List (Int × q97)))
  | 0, _, _, _, _, _ => none
  | k + 1, a0, a1, a2, a3, a7 => bif decide (a3 < (↑a2.length : Int)) then bif decide ((0 : Int) ≤ a3) && true then a2[a3.toNat]?.bind fun t => (q3h.f K t.1).bind fun t => bif t then bif (a7.length + [(a0, a1, a3)].length).ble (1000000 : Nat) then l3.f K k a0 a1 a2 (IntKind.i64.wrap (a3 + (1 : Int))) (a7 ++ [(a0, a1, a3)]) else none else l3.f K k a0 a1 a2 (IntKind.i64.wrap (a3 + (1 : Int))) a7 else none else some a7
noncomputable def l3.b (K : Nat) : Lp M 0 := q2d (X K) 14 73 6 (q0o Tryz.f55 3) ⟨[1, 3, 4, 6, 7, 8], (.cons (.ptr 0 0) (.cons (.own 1) (.cons (.ty yI) (.cons (.ty yI) (.cons (.ty (.slice q69)) (.ty yI)))))), hs1e⟩ ⟨[1, 3, 4, 6], sh1f, hs1e⟩ K [] (fun k x => l3.f K k x.1.2.2.1 x.1.2.2.2.1 x.1.2.2.2.2.1 x.1.2.2.2.2.2 x.2.2.1) (fun x r => (((), (), x.1.2.2.1, x.1.2.2.2.1), x.2.1, r, ())) fun k x => by
  rw [q0b, l3.f]
  try simp only [el]
  kernel_rfl
noncomputable def l2.f (K : Nat) : Nat → Int → Int → List q0t → List (Int × q97) → Option ((List (Int × q97)))
  | 0, _, _, _, _ => none
  | k + 1, a0, a1, a3, a5 => bif decide ((0 : Int) ≤ a0) && true then a3[a0.toNat]?.bind fun t => bif decide (a1 < (↑(List.length t.2.2.2) : Int)) then bif decide ((0 : Int) ≤ a0) && true then a3[a0.toNat]?.bind fun t => bif decide ((0 : Int) ≤ a1) && true then t.2.2.2[a1.toNat]?.bind fun t => (l3.f K K a0 a1 t.1 (0 : Int) a5).bind fun t => l2.f K k a0 (IntKind.i64.wrap (a1 + (1 : Int))) a3 t else none else none else some a5 else none
noncomputable def l2.b (K : Nat) : Lp M 0 := q2d (X K) 10 73 4 (q0o Tryz.f55 2) ⟨[1, 3, 4, 6], sh1f, hs1e⟩ ⟨[1, 3, 4], sh20, hs1e⟩ K [l3.b K] (fun k x => l2.f K k x.1.2.2.1 x.1.2.2.2 x.2.1.2.1 x.2.2.1) (fun x r => (((), (), x.1.2.2.1), x.2.1, r, ())) fun k x => by
  rw [q0b, l2.f]
  try simp only [el]
  kernel_rfl
noncomputable def l1.f (K : Nat) : Nat → Int → Int → List q0t → List (Int × q97) → Option ((List (Int × q97)))
  | 0, _, _, _, _ => none
  | k + 1, a0, a1, a3, a5 => bif decide ((0 : Int) ≤ a0) && true then a3[a0.toNat]?.bind fun t => bif decide (a1 < t.2.2.1) then bif (a5.length + [(a0, (-1 : Int), a1)].length).ble (1000000 : Nat) then l1.f K k a0 (IntKind.i64.wrap (a1 + (1 : Int))) a3 (a5 ++ [(a0, (-1 : Int), a1)]) else none else some a5 else none
noncomputable def l1.b (K : Nat) : Lp M 0 := q2d (X K) 6 73 2 (q0o Tryz.f55 1) ⟨[1, 3, 4, 5], sh1f, hs1e⟩ ⟨[1, 3, 4], sh20, hs1e⟩ K [] (fun k x => l1.f K k x.1.2.2.1 x.1.2.2.2 x.2.1.2.1 x.2.2.1) (fun x r => (((), (), x.1.2.2.1), x.2.1, r, ())) fun k x => by
  rw [q0b, l1.f]
  try simp only [el]
  kernel_rfl
noncomputable def l0.f (K : Nat) : Nat → Int → List q0t → List (Int × q97) → Option ((List (Int × q97)))
  | 0, _, _, _ => none
  | k + 1, a0, a2, a4 => bif decide (a0 < (↑a2.length : Int)) then (l1.f K K a0 (0 : Int) a2 a4).bind fun t => (l2.f K K a0 (0 : Int) a2 t).bind fun t => l0.f K k (IntKind.i64.wrap (a0 + (1 : Int))) a2 t else some a4
noncomputable def l0.b (K : Nat) : Lp M 0 := q2d (X K) 3 73 0 (q0o Tryz.f55 0) ⟨[1, 3, 4], sh20, hs1e⟩ ⟨[3], (.own 0), [.list 229 (.pair yI z4f) []]⟩ K [l1.b K, l2.b K, l3.b K] (fun k x => l0.f K k x.1.2.2 x.2.1.2.1 x.2.2.1) (fun x r => ((), r, ())) fun k x => by
  rw [q0b, l0.f]
  try simp only [el]
  kernel_rfl
noncomputable def f (K : Nat) (a1 : List q0t) : Option ((List (Int × q97))) := l0.f K K (0 : Int) a1 []
noncomputable def e (K : Nat) : En M := fnE (X K) 55 Tryz.func55 ⟨sh0, [], (.ty (.slice (.pair yI z4f))), []⟩ [l0.b K, l1.b K, l2.b K, l3.b K] (fun x => f K x.1.2.1) (fun x r => (r, ())) fun x => by
  rw [q0b, f]
  try simp only [el]
  kernel_rfl
end q06
namespace q4u
noncomputable def f (K : Nat) (a1 : List q0d) : Option (List q0d) := bif decide ((↑(0 : Nat) : Int) ≤ if (8 : Int) < (↑a1.length : Int) then (8 : Int) else (↑a1.length : Int)) && decide ((if (8 : Int) < (↑a1.length : Int) then (8 : Int) else (↑a1.length : Int)) ≤ (↑a1.length : Int)) && true then some (List.drop (0 : Nat) (List.take (if (8 : Int) < (↑a1.length : Int) then (8 : Int) else (↑a1.length : Int)).toNat a1)) else none
noncomputable def e (K : Nat) : En M := fnE (m := 0) { hmx := mxd, nt := 12, cs := [] } 110 Tryz.func110 ⟨sh21, [], sh21, []⟩ [] (fun (x : ((Bool × ((List q0d) × (Bool × (Int × (Bool × (Int × (Int × (Int × Int)))))))) × Unit)) => f K x.1.2.1) (fun x r => ((x.1.1, r, x.1.2.2), ())) fun (x : ((Bool × ((List q0d) × (Bool × (Int × (Bool × (Int × (Int × (Int × Int)))))))) × Unit)) => by
  refine Eq.trans ?_ q0b.symm
  rw [f]
  try simp only [el]
  kernel_rfl
end q4u
namespace q1v
noncomputable def X (K : Nat) : Fx M 0 := { hmx := mxd, nt := 155, cs := [q4u.e K], rf := [(17, ⟨[1, 2, 3, 4, 5, 6, 8], sh23, [hh25, hh26, .cells 54 0 sh27, .cells 156 0 sh28, .cells 160 0 sh29, .list 151 q02 [], .list 156 q1r [], .list 153 ySum [], .list 156 q1r [], .list 153 ySum [], .list 160 q1g []]⟩), (18, ⟨[1, 2, 3, 4, 5], sha, [hh25, .cells 54 0 shb, .cells 54 0 sh2a, .cells 156 0 sh2b, .list 151 q02 [], .list 156 q1r [], .list 153 ySum [], .list 156 q1r [], .list 153 ySum []]⟩)], cp := [(3, [.bool], [27]), (7, [.bool], [50]), (14, [.bool], [95]), (20, [.bool], [140])] }
noncomputable def l3.f (K : Nat) : Nat → Int → List LSum → List LSum → Option (List LSum)
  | 0, _, _, _ => none
  | k + 1, a0, a3, a9 => q1c (bif decide (a0 < (↑a3.length : Int)) then some (decide (a0 < (26 : Int))) else some false) fun t => bif t then bif decide ((0 : Int) ≤ a0) && true then a3[a0.toNat]?.bind fun t => (q4u.f K t.2.1).bind fun t_1 => bif (a9.length + [(t.1, t_1, t.2.2.1, t.2.2.2.1, (t.2.2.2.2.1.1, t.2.2.2.2.1.2), (t.2.2.2.2.2.1.1, t.2.2.2.2.2.1.2), t.2.2.2.2.2.2)].length).ble (1000000 : Nat) then l3.f K k (IntKind.i64.wrap (a0 + (1 : Int))) a3 (a9 ++ [(t.1, t_1, t.2.2.1, t.2.2.2.1, (t.2.2.2.2.1.1, t.2.2.2.2.1.2), (t.2.2.2.2.2.1.1, t.2.2.2.2.2.1.2), t.2.2.2.2.2.2)]) else none else none else some a9
noncomputable def l3.b (K : Nat) : Lp M 0 := q2d (X K) 20 155 6 (q0o Tryz.f57 3) ⟨[1, 2, 3, 10], shf, hs2d⟩ ⟨[2, 3], sh11, [.cells 54 0 sh12, .cells 54 0 sh2e, .list 151 q02 [], .list 156 q1r [], .list 153 ySum [], .list 156 q1r [], .list 153 ySum []]⟩ K [] (fun k x => l3.f K k x.1.2.2.2 x.2.1.2.2 x.2.2.2.2.2.2.2.2.1) (fun x r => (((), ()), ((), (), ()), x.2.2.2.1, x.2.2.2.2.1, x.2.2.2.2.2.1, x.2.2.2.2.2.2.1, x.2.2.2.2.2.2.2.1, r, ())) fun k x => by
  rw [q0b, l3.f]
  try simp only [el]
  kernel_rfl
noncomputable def l2.f (K : Nat) : Nat → Int → List (List Int) → List (List Int) → Option (List (List Int))
  | 0, _, _, _ => none
  | k + 1, a2, a18, a29 => q1c (bif decide (a2 < (↑a18.length : Int)) then some (decide (a2 < (10 : Int))) else some false) fun t => bif t then bif decide ((0 : Int) ≤ a2) && true then a18[a2.toNat]?.bind fun t => bif decide ((0 : Int) ≤ a2) && true then a18[a2.toNat]?.bind fun t_1 => bif decide ((↑(0 : Nat) : Int) ≤ if (60 : Int) < (↑(List.length t_1) : Int) then (60 : Int) else (↑(List.length t_1) : Int)) && decide ((if (60 : Int) < (↑(List.length t_1) : Int) then (60 : Int) else (↑(List.length t_1) : Int)) ≤ (↑(List.length t) : Int)) && true then bif (a29.length + [List.drop (0 : Nat) (List.take (if (60 : Int) < (↑(List.length t_1) : Int) then (60 : Int) else (↑(List.length t_1) : Int)).toNat t)].length).ble (1000000 : Nat) then l2.f K k (IntKind.i64.wrap (a2 + (1 : Int))) a18 (a29 ++ [List.drop (0 : Nat) (List.take (if (60 : Int) < (↑(List.length t_1) : Int) then (60 : Int) else (↑(List.length t_1) : Int)).toNat t)]) else none else none else none else none else some a29
noncomputable def l2.b (K : Nat) : Lp M 0 := q2d (X K) 14 155 4 (q0o Tryz.f57 2) ⟨[1, 2, 3, 4, 5, 6, 7, 8, 9], (.cons (.ptr 0 0) (.cons (.ptr 1 0) (.cons (.ptr 2 0) (.cons (.ty yI) (.cons (.ptr 3 0) (.cons (.ty yI) (.cons (.ptr 4 0) (.cons (.ptr 5 0) (.ty yI))))))))), [hh25, .cells 54 0 sh4, .cells 54 0 (.cons (.ty (.slice q02)) (.cons (.own 9) (.own 10))), .cells 156 0 sh2f, .cells 160 0 sh29, .cells 160 0 (.cons (.ty .bool) (.cons (.ty (.slice q02)) (.cons (.own 12) (.ty (.slice yI))))), .list 151 q02 [], .list 156 q1r [], .list 153 ySum [], .list 156 q1r [], .list 153 ySum [], .list 160 q1g [], .list 100 (.slice yI) []]⟩ ⟨[1, 2, 3, 4, 5, 6, 8], sh23, [hh25, hh26, .cells 54 0 sh27, .cells 156 0 sh28, .cells 160 0 (.cons (.ty .bool) (.cons (.ty (.slice q02)) (.cons (.own 11) (.ty (.slice yI))))), .list 151 q02 [], .list 156 q1r [], .list 153 ySum [], .list 156 q1r [], .list 153 ySum [], .list 160 q1g [], .list 100 (.slice yI) []]⟩ K [] (fun k (x : ((Unit × (Unit × (Unit × (Int × (Unit × (Int × (Unit × (Unit × Int)))))))) × (((List q0d) × ((List q0l) × (List LSum))) × ((Unit × (Unit × Unit)) × (((List q0d) × (Unit × Unit)) × ((Bool × ((List q0d) × (Bool × (Int × (Bool × (Int × (Int × (Int × (Int × Unit))))))))) × ((Bool × ((List q0d) × ((List (List Int)) × (List Int)))) × ((Bool × ((List q0d) × (Unit × (List Int)))) × ((List q0d) × ((List q0l) × ((List LSum) × ((List q0l) × ((List LSum) × ((List q0j) × ((List (List Int)) × Unit))))))))))))))) => l2.f K k x.1.2.2.2.2.2.2.2.2 x.2.2.2.2.2.1.2.2.1 x.2.2.2.2.2.2.2.2.2.2.2.2.2.1) (fun x r => (((), (), (), x.1.2.2.2.1, (), x.1.2.2.2.2.2.1, ()), x.2.1, ((), (), ()), x.2.2.2.1, x.2.2.2.2.1, x.2.2.2.2.2.2.1, x.2.2.2.2.2.2.2.1, x.2.2.2.2.2.2.2.2.1, x.2.2.2.2.2.2.2.2.2.1, x.2.2.2.2.2.2.2.2.2.2.1, x.2.2.2.2.2.2.2.2.2.2.2.1, x.2.2.2.2.2.2.2.2.2.2.2.2.1, r, ())) fun k (x : ((Unit × (Unit × (Unit × (Int × (Unit × (Int × (Unit × (Unit × Int)))))))) × (((List q0d) × ((List q0l) × (List LSum))) × ((Unit × (Unit × Unit)) × (((List q0d) × (Unit × Unit)) × ((Bool × ((List q0d) × (Bool × (Int × (Bool × (Int × (Int × (Int × (Int × Unit))))))))) × ((Bool × ((List q0d) × ((List (List Int)) × (List Int)))) × ((Bool × ((List q0d) × (Unit × (List Int)))) × ((List q0d) × ((List q0l) × ((List LSum) × ((List q0l) × ((List LSum) × ((List q0j) × ((List (List Int)) × Unit))))))))))))))) => by
  refine Eq.trans ?_ q0b.symm
  rw [l2.f]
  try simp only [el]
  kernel_rfl
noncomputable def l1.f (K : Nat) : Nat → Int → Int → List q0l → List q0j → Option (List q0j)
  | 0, _, _, _, _ => none
  | k + 1, a0, a1, a3, a20 => q1c (bif decide ((0 : Int) ≤ a0) && true then a3[a0.toNat]?.bind fun t => bif decide (a1 < (↑(List.length t.2) : Int)) then some (decide (a1 < (14 : Int))) else some false else none) fun t => bif t then bif decide ((0 : Int) ≤ a0) && true then a3[a0.toNat]?.bind fun t => bif decide ((0 : Int) ≤ a1) && true then t.2[a1.toNat]?.bind fun t => bif decide ((↑(0 : Nat) : Int) ≤ if (10 : Int) < (↑(List.length t.2) : Int) then (10 : Int) else (↑(List.length t.2) : Int)) && decide ((if (10 : Int) < (↑(List.length t.2) : Int) then (10 : Int) else (↑(List.length t.2) : Int)) ≤ (↑(List.length t.2) : Int)) && true then bif decide ((↑(0 : Nat) : Int) ≤ if (10 : Int) < (↑(List.length t.1.2.1) : Int) then (10 : Int) else (↑(List.length t.1.2.1) : Int)) && decide ((if (10 : Int) < (↑(List.length t.1.2.1) : Int) then (10 : Int) else (↑(List.length t.1.2.1) : Int)) ≤ (↑(List.length t.1.2.1) : Int)) && true then (l2.f K K (0 : Int) t.1.2.2 []).bind fun t_1 => bif (a20.length + [((t.1.1, List.drop (0 : Nat) (List.take (if (10 : Int) < (↑(List.length t.1.2.1) : Int) then (10 : Int) else (↑(List.length t.1.2.1) : Int)).toNat t.1.2.1), t_1), List.drop (0 : Nat) (List.take (if (10 : Int) < (↑(List.length t.2) : Int) then (10 : Int) else (↑(List.length t.2) : Int)).toNat t.2))].length).ble (1000000 : Nat) then l1.f K k a0 (IntKind.i64.wrap (a1 + (1 : Int))) a3 (a20 ++ [((t.1.1, List.drop (0 : Nat) (List.take (if (10 : Int) < (↑(List.length t.1.2.1) : Int) then (10 : Int) else (↑(List.length t.1.2.1) : Int)).toNat t.1.2.1), t_1), List.drop (0 : Nat) (List.take (if (10 : Int) < (↑(List.length t.2) : Int) then (10 : Int) else (↑(List.length t.2) : Int)).toNat t.2))]) else none else none else none else none else none else some a20
noncomputable def l1.b (K : Nat) : Lp M 0 := q2d (X K) 7 155 2 (q0o Tryz.f57 1) ⟨[1, 2, 3, 4, 5, 6], sh30, hs32⟩ ⟨[1, 2, 3, 4, 5], sha, hs32⟩ K [l2.b K] (fun k (x : ((Unit × (Unit × (Unit × (Int × (Unit × Int))))) × (((List q0d) × ((List q0l) × (List LSum))) × ((Unit × (Unit × Unit)) × (((List q0d) × (Unit × Unit)) × ((Bool × ((List q0d) × (Bool × (Int × (Bool × (Int × (Int × (Int × (Int × Unit))))))))) × ((List q0d) × ((List q0l) × ((List LSum) × ((List q0l) × ((List LSum) × ((List q0j) × Unit)))))))))))) => l1.f K k x.1.2.2.2.1 x.1.2.2.2.2.2 x.2.1.2.1 x.2.2.2.2.2.2.2.2.2.2.1) (fun x r => (((), (), (), x.1.2.2.2.1, ()), x.2.1, ((), (), ()), x.2.2.2.1, x.2.2.2.2.1, x.2.2.2.2.2.1, x.2.2.2.2.2.2.1, x.2.2.2.2.2.2.2.1, x.2.2.2.2.2.2.2.2.1, x.2.2.2.2.2.2.2.2.2.1, r, ())) fun k (x : ((Unit × (Unit × (Unit × (Int × (Unit × Int))))) × (((List q0d) × ((List q0l) × (List LSum))) × ((Unit × (Unit × Unit)) × (((List q0d) × (Unit × Unit)) × ((Bool × ((List q0d) × (Bool × (Int × (Bool × (Int × (Int × (Int × (Int × Unit))))))))) × ((List q0d) × ((List q0l) × ((List LSum) × ((List q0l) × ((List LSum) × ((List q0j) × Unit)))))))))))) => by
  refine Eq.trans ?_ q0b.symm
  rw [l1.f]
  try simp only [el]
  kernel_rfl
noncomputable def l0.f (K : Nat) : Nat → Int → List q0l → List q0l → Option (List q0l)
  | 0, _, _, _ => none
  | k + 1, a0, a2, a8 => q1c (bif decide (a0 < (↑a2.length : Int)) then some (decide (a0 < (26 : Int))) else some false) fun t => bif t then bif decide ((0 : Int) ≤ a0) && true then a2[a0.toNat]?.bind fun t => (q4u.f K t.1.2.1).bind fun t_1 => (l1.f K K a0 (0 : Int) a2 []).bind fun t_2 => bif (a8.length + [((t.1.1, t_1, t.1.2.2.1, t.1.2.2.2.1, (t.1.2.2.2.2.1.1, t.1.2.2.2.2.1.2), (t.1.2.2.2.2.2.1.1, t.1.2.2.2.2.2.1.2), t.1.2.2.2.2.2.2), t_2)].length).ble (1000000 : Nat) then l0.f K k (IntKind.i64.wrap (a0 + (1 : Int))) a2 (a8 ++ [((t.1.1, t_1, t.1.2.2.1, t.1.2.2.2.1, (t.1.2.2.2.2.1.1, t.1.2.2.2.2.1.2), (t.1.2.2.2.2.2.1.1, t.1.2.2.2.2.2.1.2), t.1.2.2.2.2.2.2), t_2)]) else none else none else some a8
noncomputable def l0.b (K : Nat) : Lp M 0 := q2d (X K) 3 155 0 (q0o Tryz.f57 0) ⟨[1, 2, 3, 4], shf, hs2d⟩ ⟨[1, 2, 3], sh33, hs2d⟩ K [l1.b K, l2.b K] (fun k x => l0.f K k x.1.2.2.2 x.2.1.2.1 x.2.2.2.2.2.2.2.1) (fun x r => (((), (), ()), x.2.1, ((), (), ()), x.2.2.2.1, x.2.2.2.2.1, x.2.2.2.2.2.1, x.2.2.2.2.2.2.1, r, x.2.2.2.2.2.2.2.2)) fun k x => by
  rw [q0b, l0.f]
  try simp only [el]
  kernel_rfl
noncomputable def f (K : Nat) (a0 : List q0d) (a1 : List q0l) (a2 : List LSum) : Option (List q0d × List q0l × List LSum) := bif decide ((↑(0 : Nat) : Int) ≤ if (20 : Int) < (↑a0.length : Int) then (20 : Int) else (↑a0.length : Int)) && decide ((if (20 : Int) < (↑a0.length : Int) then (20 : Int) else (↑a0.length : Int)) ≤ (↑a0.length : Int)) && true then (l0.f K K (0 : Int) a1 []).bind fun t => (l3.f K K (0 : Int) a2 []).bind fun t_1 => some (List.drop (0 : Nat) (List.take (if (20 : Int) < (↑a0.length : Int) then (20 : Int) else (↑a0.length : Int)).toNat a0), t, t_1) else none
noncomputable def e (K : Nat) : En M := fnE (X K) 57 Tryz.func57 ⟨sh22, [], sh22, []⟩ [l0.b K, l1.b K, l2.b K, l3.b K] (fun x => f K x.1.1 x.1.2.1 x.1.2.2) (fun x r => ((r.1, r.2.1, r.2.2), ())) fun x => by
  rw [q0b, f]
  try simp only [el]
  kernel_rfl
end q1v
namespace q35
noncomputable def X (K : Nat) : Fx M 0 := { hmx := mxd, nt := 15, cs := [] }
noncomputable def l0.f (K : Nat) : Nat → Int → Int → List Int → Option (List Int)
  | 0, _, _, _ => none
  | k + 1, a0, a1, a2 => bif decide (a1 < a0) then bif (a2.length + [a1].length).ble (1000000 : Nat) then l0.f K k a0 (IntKind.i64.wrap (a1 + (1 : Int))) (a2 ++ [a1]) else none else some a2
noncomputable def l0.b (K : Nat) : Lp M 0 := q2d (X K) 3 15 0 (q0o Tryz.f163 0) ⟨[0, 3, 4], (.cons (.ty yI) (.cons (.own 0) (.ty yI))), hs1d⟩ ⟨[3], (.own 0), hs1d⟩ K [] (fun k x => l0.f K k x.1.1 x.1.2.2 x.2.1) (fun x r => ((), r, ())) fun k x => by
  rw [q0b, l0.f]
  try simp only [el]
  kernel_rfl
noncomputable def f (K : Nat) (a0 : Int) : Option (List Int) := l0.f K K a0 (0 : Int) []
noncomputable def e (K : Nat) : En M := fnE (X K) 163 Tryz.func163 ⟨(.ty yI), [], sh34, []⟩ [l0.b K] (fun x => f K x.1) (fun x r => (r, ())) fun x => by
  rw [q0b, f]
  try simp only [el]
  kernel_rfl
end q35
namespace q79
noncomputable def f (K : Nat) : Option (Int × Int) := some ((-9223372036854775808 : Int), (9223372036854775807 : Int))
noncomputable def e (K : Nat) : En M := fnE (m := 0) { hmx := mxd, nt := 2, cs := [] } 168 Tryz.func168 ⟨.unit, [], sh35, []⟩ [] (fun x => f K) (fun x r => ((r.1, r.2), ())) fun x => by
  rw [q0b, f]
  try simp only [el]
  kernel_rfl
end q79
namespace q2s
noncomputable def f (K : Nat) : Option (Int × Bool × Int × Int × Int × Int) := (q79.f K).bind fun t => some ((7 : Int), false, (0 : Int), t.1, t.2, (3 : Int))
noncomputable def e (K : Nat) : En M := fnE (m := 0) { hmx := mxd, nt := 3, cs := [q79.e K] } 108 Tryz.func108 ⟨.unit, [], sh36, []⟩ [] (fun x => f K) (fun x r => ((r.1, r.2.1, r.2.2.1, r.2.2.2.1, r.2.2.2.2.1, r.2.2.2.2.2), ())) fun x => by
  rw [q0b, f]
  try simp only [el]
  kernel_rfl
end q2s
namespace q2z
noncomputable def X (K : Nat) : Fx M 0 := { hmx := mxd, nt := 19, cs := [q2s.e K] }
noncomputable def l0.f (K : Nat) : Nat → Int → Int → List q0d → Option (List q0d)
  | 0, _, _, _ => none
  | k + 1, a0, a1, a19 => bif decide (a1 < a0) then (q2s.f K).bind fun t => bif (a19.length + [(t.1, (t.2.1, t.2.2.1), (t.2.2.2.1, t.2.2.2.2.1), t.2.2.2.2.2)].length).ble (1000000 : Nat) then l0.f K k a0 (IntKind.i64.wrap (a1 + (1 : Int))) (a19 ++ [(t.1, (t.2.1, t.2.2.1), (t.2.2.2.1, t.2.2.2.2.1), t.2.2.2.2.2)]) else none else some a19
noncomputable def l0.b (K : Nat) : Lp M 0 := q2d (X K) 3 19 0 (q0o Tryz.f164 0) ⟨[0, 2, 3, 4], (.cons (.ty yI) (.cons (.ptr 0 0) (.cons (.ptr 1 0) (.ty yI)))), hs38⟩ ⟨[2, 3], sh11, hs38⟩ K [] (fun k (x : ((Int × (Unit × (Unit × Int))) × ((Bool × (Unit × (Bool × (Int × (Bool × (Int × (Int × (Int × Int)))))))) × ((Bool × (Unit × (Bool × (Int × (Bool × (Int × (Int × (Int × Int)))))))) × ((List q0d) × ((List q0d) × Unit)))))) => l0.f K k x.1.1 x.1.2.2.2 x.2.2.2.2.1) (fun x r => (((), ()), x.2.1, x.2.2.1, x.2.2.2.1, r, ())) fun k (x : ((Int × (Unit × (Unit × Int))) × ((Bool × (Unit × (Bool × (Int × (Bool × (Int × (Int × (Int × Int)))))))) × ((Bool × (Unit × (Bool × (Int × (Bool × (Int × (Int × (Int × Int)))))))) × ((List q0d) × ((List q0d) × Unit)))))) => by
  refine Eq.trans ?_ q0b.symm
  rw [l0.f]
  try simp only [el]
  kernel_rfl
noncomputable def f (K : Nat) (a0 : Int) : Option (Bool × List q0d × Bool × Int × Bool × Int × Int × Int × Int) := (q2s.f K).bind fun t => (l0.f K K a0 (0 : Int) []).bind fun t_1 => some (true, t_1, true, t.1, t.2.1, t.2.2.1, t.2.2.2.1, t.2.2.2.2.1, t.2.2.2.2.2)
noncomputable def e (K : Nat) : En M := fnE (X K) 164 Tryz.func164 ⟨(.ty yI), [], sh21, []⟩ [l0.b K] (fun x => f K x.1) (fun x r => ((r.1, r.2.1, r.2.2.1, r.2.2.2.1, r.2.2.2.2.1, r.2.2.2.2.2.1, r.2.2.2.2.2.2.1, r.2.2.2.2.2.2.2.1, r.2.2.2.2.2.2.2.2), ())) fun x => by
  rw [q0b, f]
  try simp only [el]
  kernel_rfl
end q2z
namespace q1n
noncomputable def X (K : Nat) : Fx M 0 := { hmx := mxd, nt := 118, cs := [q06.e K, q35.e K, q2s.e K, q2z.e K], rf := [(20, ⟨[1, 2, 3, 4, 6, 7, 8, 9], sh39, [hh3, hh26, .cells 54 0 sh3a, .cells 156 0 sh2f, hh3c, .list 151 q02 [], .list 156 q1r [], .list 153 ySum [], .list 151 q02 [], .list 156 (.pair ySum (.own 0)) [12], .list 153 ySum [], .list 160 q1g [], .many 160 q1g]⟩)], pr := [(2, [.shape 0 118 ⟨[1, 2, 3], sh33, [hh3, .cells 54 0 sh10, .cells 54 0 sh4, .list 151 q02 [], .list 156 q1r [], .list 153 ySum [], .list 151 q02 [], .list 156 (.pair ySum (.own 0)) [9], .list 153 ySum [], .void 160 q1g]⟩]), (21, [.shape 0 118 ⟨[1, 2, 3, 4, 6, 7], sh3d, hs3f⟩, .adopt 10 11])] }
noncomputable def l4.f (K : Nat) : Nat → Int → List q0h → List LSum → Option (List LSum)
  | 0, _, _, _ => none
  | k + 1, a0, a3, a9 => bif decide (a0 < (↑a3.length : Int)) then bif decide ((0 : Int) ≤ a0) && true then a3[a0.toNat]?.bind fun t => (q2z.f K t.2).bind fun t => bif (a9.length + [(t.1, t.2.1, t.2.2.1, t.2.2.2.1, (t.2.2.2.2.1, t.2.2.2.2.2.1), (t.2.2.2.2.2.2.1, t.2.2.2.2.2.2.2.1), t.2.2.2.2.2.2.2.2)].length).ble (1000000 : Nat) then l4.f K k (IntKind.i64.wrap (a0 + (1 : Int))) a3 (a9 ++ [(t.1, t.2.1, t.2.2.1, t.2.2.2.1, (t.2.2.2.2.1, t.2.2.2.2.2.1), (t.2.2.2.2.2.2.1, t.2.2.2.2.2.2.2.1), t.2.2.2.2.2.2.2.2)]) else none else none else some a9
noncomputable def l4.b (K : Nat) : Lp M 0 := q2d (X K) 23 118 8 (q0o Tryz.f104 4) ⟨[1, 2, 3, 11], shf, hs40⟩ ⟨[2, 3], sh11, hs41⟩ K [] (fun k x => l4.f K k x.1.2.2.2 x.2.1.2.2 x.2.2.2.2.2.2.2.2.2.1) (fun x r => (((), ()), ((), (), ()), ((), (), ()), x.2.2.2.2.1, x.2.2.2.2.2.1, x.2.2.2.2.2.2.1, x.2.2.2.2.2.2.2.1, x.2.2.2.2.2.2.2.2.1, r, x.2.2.2.2.2.2.2.2.2.2)) fun k x => by
  rw [q0b, l4.f]
  try simp only [el]
  kernel_rfl
noncomputable def l3.f (K : Nat) : Nat → List Int → Int → Int → List q0t → List q0d → List (List Int) → Option (List q0d × List (List Int))
  | 0, _, _, _, _, _, _ => none
  | k + 1, a0, a1, a3, a5, a24, a25 => bif decide ((0 : Int) ≤ a1) && true then a5[a1.toNat]?.bind fun t => bif decide (a3 < t.2.2.1) then (q2s.f K).bind fun t => bif (a24.length + [(t.1, (t.2.1, t.2.2.1), (t.2.2.2.1, t.2.2.2.2.1), t.2.2.2.2.2)].length).ble (1000000 : Nat) then bif (a25.length + [a0].length).ble (1000000 : Nat) then l3.f K k a0 a1 (IntKind.i64.wrap (a3 + (1 : Int))) a5 (a24 ++ [(t.1, (t.2.1, t.2.2.1), (t.2.2.2.1, t.2.2.2.2.1), t.2.2.2.2.2)]) (a25 ++ [a0]) else none else none else some (a24, a25) else none
noncomputable def l3.b (K : Nat) : Lp M 0 := q2d (X K) 16 118 6 (q0o Tryz.f104 3) ⟨[1, 2, 3, 4, 6, 7, 8, 9, 10], (.cons (.ptr 0 0) (.cons (.ptr 1 0) (.cons (.ptr 2 0) (.cons (.ty (.slice yI)) (.cons (.ty yI) (.cons (.ptr 3 0) (.cons (.ty yI) (.cons (.ptr 4 0) (.ty yI))))))))), hs42⟩ ⟨[1, 2, 3, 4, 6, 7, 8, 9], sh39, hs42⟩ K [] (fun k (x : ((Unit × (Unit × (Unit × ((List Int) × (Int × (Unit × (Int × (Unit × Int)))))))) × (((List Int) × ((List q0t) × (List q0h))) × ((Unit × (Unit × Unit)) × ((Unit × (Unit × Unit)) × ((Bool × ((List q0d) × (Bool × (Int × (Bool × (Int × (Int × (Int × (Int × Unit))))))))) × ((Bool × (Unit × Unit)) × ((List q0d) × ((List q0l) × ((List LSum) × ((List q0d) × ((List (LSum × Nat)) × ((List LSum) × ((List q0j) × ((List q0d) × ((List (List Int)) × ((List (Option (List q0j))) × Unit))))))))))))))))) => l3.f K k x.1.2.2.2.1 x.1.2.2.2.2.1 x.1.2.2.2.2.2.2.2.2 x.2.1.2.1 x.2.2.2.2.2.2.2.2.2.2.2.2.2.1 x.2.2.2.2.2.2.2.2.2.2.2.2.2.2.1) (fun x r => (((), (), (), x.1.2.2.2.1, x.1.2.2.2.2.1, (), x.1.2.2.2.2.2.2.1, ()), x.2.1, ((), (), ()), ((), (), ()), x.2.2.2.2.1, x.2.2.2.2.2.1, x.2.2.2.2.2.2.1, x.2.2.2.2.2.2.2.1, x.2.2.2.2.2.2.2.2.1, x.2.2.2.2.2.2.2.2.2.1, x.2.2.2.2.2.2.2.2.2.2.1, x.2.2.2.2.2.2.2.2.2.2.2.1, x.2.2.2.2.2.2.2.2.2.2.2.2.1, r.1, r.2, x.2.2.2.2.2.2.2.2.2.2.2.2.2.2.2)) fun k (x : ((Unit × (Unit × (Unit × ((List Int) × (Int × (Unit × (Int × (Unit × Int)))))))) × (((List Int) × ((List q0t) × (List q0h))) × ((Unit × (Unit × Unit)) × ((Unit × (Unit × Unit)) × ((Bool × ((List q0d) × (Bool × (Int × (Bool × (Int × (Int × (Int × (Int × Unit))))))))) × ((Bool × (Unit × Unit)) × ((List q0d) × ((List q0l) × ((List LSum) × ((List q0d) × ((List (LSum × Nat)) × ((List LSum) × ((List q0j) × ((List q0d) × ((List (List Int)) × ((List (Option (List q0j))) × Unit))))))))))))))))) => by
  refine Eq.trans ?_ q0b.symm
  rw [l3.f]
  try simp only [el]
  kernel_rfl
noncomputable def l2.f (K : Nat) : Nat → List Int → Int → Int → List q0t → List q0j → Option (List q0j)
  | 0, _, _, _, _, _ => none
  | k + 1, a0, a1, a2, a4, a21 => bif decide ((0 : Int) ≤ a1) && true then a4[a1.toNat]?.bind fun t => bif decide (a2 < (↑(List.length t.2.2.2) : Int)) then (l3.f K K a0 a1 (0 : Int) a4 [] []).bind fun t => bif decide ((0 : Int) ≤ a1) && true then a4[a1.toNat]?.bind fun t_1 => (q35.f K t_1.2.2.1).bind fun t_2 => bif (a21.length + [((true, t.1, t.2), t_2)].length).ble (1000000 : Nat) then l2.f K k a0 a1 (IntKind.i64.wrap (a2 + (1 : Int))) a4 (a21 ++ [((true, t.1, t.2), t_2)]) else none else none else some a21 else none
noncomputable def l2.b (K : Nat) : Lp M 0 := q2d (X K) 12 118 4 (q0o Tryz.f104 2) ⟨[1, 2, 3, 4, 6, 7, 8], (.cons (.ptr 0 0) (.cons (.ptr 1 0) (.cons (.ptr 2 0) (.cons (.ty (.slice yI)) (.cons (.ty yI) (.cons (.ptr 3 0) (.ty yI))))))), hs3f⟩ ⟨[1, 2, 3, 4, 6, 7], sh3d, hs3f⟩ K [l3.b K] (fun k (x : ((Unit × (Unit × (Unit × ((List Int) × (Int × (Unit × Int)))))) × (((List Int) × ((List q0t) × (List q0h))) × ((Unit × (Unit × Unit)) × ((Unit × (Unit × Unit)) × ((Bool × ((List q0d) × (Bool × (Int × (Bool × (Int × (Int × (Int × (Int × Unit))))))))) × ((List q0d) × ((List q0l) × ((List LSum) × ((List q0d) × ((List (LSum × Nat)) × ((List LSum) × ((List q0j) × ((List (Option (List q0j))) × Unit)))))))))))))) => l2.f K k x.1.2.2.2.1 x.1.2.2.2.2.1 x.1.2.2.2.2.2.2 x.2.1.2.1 x.2.2.2.2.2.2.2.2.2.2.2.1) (fun x r => (((), (), (), x.1.2.2.2.1, x.1.2.2.2.2.1, ()), x.2.1, ((), (), ()), ((), (), ()), x.2.2.2.2.1, x.2.2.2.2.2.1, x.2.2.2.2.2.2.1, x.2.2.2.2.2.2.2.1, x.2.2.2.2.2.2.2.2.1, x.2.2.2.2.2.2.2.2.2.1, x.2.2.2.2.2.2.2.2.2.2.1, r, x.2.2.2.2.2.2.2.2.2.2.2.2)) fun k (x : ((Unit × (Unit × (Unit × ((List Int) × (Int × (Unit × Int)))))) × (((List Int) × ((List q0t) × (List q0h))) × ((Unit × (Unit × Unit)) × ((Unit × (Unit × Unit)) × ((Bool × ((List q0d) × (Bool × (Int × (Bool × (Int × (Int × (Int × (Int × Unit))))))))) × ((List q0d) × ((List q0l) × ((List LSum) × ((List q0d) × ((List (LSum × Nat)) × ((List LSum) × ((List q0j) × ((List (Option (List q0j))) × Unit)))))))))))))) => by
  refine Eq.trans ?_ q0b.symm
  rw [l2.f]
  try simp only [el]
  kernel_rfl
noncomputable def l1.f (K : Nat) : Nat → List Int → Int → List q0t → List (LSum × Nat) → List (Option (List q0j)) → Option ((List (LSum × Nat)) × List (Option (List q0j)))
  | 0, _, _, _, _, _ => none
  | k + 1, a0, a1, a3, a9, a11 => bif decide (a1 < (↑a3.length : Int)) then bif decide ((0 : Int) ≤ a1) && true then a3[a1.toNat]?.bind fun t => (q2z.f K t.2.1).bind fun t => (l2.f K K a0 a1 (0 : Int) a3 []).bind fun t_1 => bif (a9.length + [((t.1, t.2.1, t.2.2.1, t.2.2.2.1, (t.2.2.2.2.1, t.2.2.2.2.2.1), (t.2.2.2.2.2.2.1, t.2.2.2.2.2.2.2.1), t.2.2.2.2.2.2.2.2), a11.length)].length).ble (1000000 : Nat) then l1.f K k a0 (IntKind.i64.wrap (a1 + (1 : Int))) a3 (a9 ++ [((t.1, t.2.1, t.2.2.1, t.2.2.2.1, (t.2.2.2.2.1, t.2.2.2.2.2.1), (t.2.2.2.2.2.2.1, t.2.2.2.2.2.2.2.1), t.2.2.2.2.2.2.2.2), a11.length)]) (a11 ++ [some t_1]) else none else none else some (a9, a11)
noncomputable def l1.b (K : Nat) : Lp M 0 := q2d (X K) 8 118 2 (q0o Tryz.f104 1) ⟨[1, 2, 3, 4, 6], sh43, hs40⟩ ⟨[1, 2, 3], sh33, hs40⟩ K [l2.b K, l3.b K] (fun k x => l1.f K k x.1.2.2.2.1 x.1.2.2.2.2 x.2.1.2.1 x.2.2.2.2.2.2.2.2.1 x.2.2.2.2.2.2.2.2.2.2.1) (fun x r => (((), (), ()), x.2.1, ((), (), ()), ((), (), ()), x.2.2.2.2.1, x.2.2.2.2.2.1, x.2.2.2.2.2.2.1, x.2.2.2.2.2.2.2.1, r.1, x.2.2.2.2.2.2.2.2.2.1, r.2, ())) fun k x => by
  rw [q0b, l1.f]
  try simp only [el]
  kernel_rfl
noncomputable def l0.f (K : Nat) : Nat → Int → List Int → List q0d → Option (List q0d)
  | 0, _, _, _ => none
  | k + 1, a1, a2, a8 => bif decide (a1 < (↑a2.length : Int)) then (q2s.f K).bind fun t => bif (a8.length + [(t.1, (t.2.1, t.2.2.1), (t.2.2.2.1, t.2.2.2.2.1), t.2.2.2.2.2)].length).ble (1000000 : Nat) then l0.f K k (IntKind.i64.wrap (a1 + (1 : Int))) a2 (a8 ++ [(t.1, (t.2.1, t.2.2.1), (t.2.2.2.1, t.2.2.2.2.1), t.2.2.2.2.2)]) else none else some a8
noncomputable def l0.b (K : Nat) : Lp M 0 := q2d (X K) 4 118 0 (q0o Tryz.f104 0) ⟨[1, 2, 3, 4, 5], sh43, hs40⟩ ⟨[1, 2, 3, 4], (.cons (.ptr 0 0) (.cons (.ptr 1 0) (.cons (.ptr 2 0) (.ty (.slice yI))))), hs40⟩ K [] (fun k x => l0.f K k x.1.2.2.2.2 x.2.1.1 x.2.2.2.2.2.2.2.1) (fun x r => (((), (), (), x.1.2.2.2.1), x.2.1, ((), (), ()), ((), (), ()), x.2.2.2.2.1, x.2.2.2.2.2.1, x.2.2.2.2.2.2.1, r, x.2.2.2.2.2.2.2.2)) fun k x => by
  rw [q0b, l0.f]
  try simp only [el]
  kernel_rfl
noncomputable def f (K : Nat) (a0 : List Int) (a1 : List q0t) (a2 : List q0h) : Option (List q0d × (List (LSum × Nat)) × List LSum × List (Option (List q0j))) := (q06.f K a1).bind fun t => (q35.f K (↑t.length : Int)).bind fun t => (l0.f K K (0 : Int) a0 []).bind fun t_1 => (l1.f K K t (0 : Int) a1 [] []).bind fun t => (l4.f K K (0 : Int) a2 []).bind fun t_2 => some (t_1, t.1, t_2, t.2)
noncomputable def e (K : Nat) : En M := fnE (X K) 104 Tryz.func104 ⟨sh0, [], (.agg (.cons (.own 0) (.cons (.own 1) (.own 2)))), [.list 151 q02 [], .list 156 (.pair ySum (.own 0)) [3], .list 153 ySum [], .many 160 q1g]⟩ [l0.b K, l1.b K, l2.b K, l3.b K, l4.b K] (fun x => f K x.1.1 x.1.2.1 x.1.2.2) (fun x r => (((), (), ()), r.1, r.2.1, r.2.2.1, r.2.2.2, ())) fun x => by
  rw [q0b, f]
  try simp only [el]
  kernel_rfl
end q1n
namespace q3k
noncomputable def f (K : Nat) (a0 : Bool) (a1 : Int) : Option (Bool × Int) := bif !a0 then some (false, (0 : Int)) else some (a0, a1)
noncomputable def e (K : Nat) : En M := fnE (m := 0) { hmx := mxd, nt := 8, cs := [] } 165 Tryz.func165 ⟨sh44, [], sh44, []⟩ [] (fun (x : ((Bool × Int) × Unit)) => f K x.1.1 x.1.2) (fun x r => ((r.1, r.2), ())) fun (x : ((Bool × Int) × Unit)) => by
  refine Eq.trans ?_ q0b.symm
  rw [f]
  try simp only [el]
  kernel_rfl
end q3k
namespace q3w
noncomputable def f (K : Nat) (a0 : Int) (a1 : Int) : Option (Int × Int) := bif decide (a0 > a1) then some (a1, a0) else some (a0, a1)
noncomputable def e (K : Nat) : En M := fnE (m := 0) { hmx := mxd, nt := 14, cs := [] } 166 Tryz.func166 ⟨sh35, [], sh35, []⟩ [] (fun x => f K x.1.1 x.1.2) (fun x r => ((r.1, r.2), ())) fun x => by
  rw [q0b, f]
  try simp only [el]
  kernel_rfl
end q3w
namespace q3c
noncomputable def f (K : Nat) (a0 : Int) (a1 : Bool) (a2 : Int) (a3 : Int) (a4 : Int) (a5 : Int) : Option (Int × Bool × Int × Int × Int × Int) := bif IntKind.i64.wrap (↑(BitVec.ofInt (64 : Nat) a0 &&& BitVec.ofInt (64 : Nat) (7 : Int)).toNat : Int) == (0 : Int) then bif IntKind.i64.wrap (↑(BitVec.ofInt (64 : Nat) a5 &&& BitVec.ofInt (64 : Nat) (3 : Int)).toNat : Int) == (0 : Int) then (q3k.f K a1 a2).bind fun t => (q3w.f K a3 a4).bind fun t_1 => some ((7 : Int), t.1, t.2, t_1.1, t_1.2, (3 : Int)) else (q3k.f K a1 a2).bind fun t => (q3w.f K a3 a4).bind fun t_1 => some ((7 : Int), t.1, t.2, t_1.1, t_1.2, IntKind.i64.wrap (↑(BitVec.ofInt (64 : Nat) a5 &&& BitVec.ofInt (64 : Nat) (3 : Int)).toNat : Int)) else bif IntKind.i64.wrap (↑(BitVec.ofInt (64 : Nat) a5 &&& BitVec.ofInt (64 : Nat) (3 : Int)).toNat : Int) == (0 : Int) then (q3k.f K a1 a2).bind fun t => (q3w.f K a3 a4).bind fun t_1 => some (IntKind.i64.wrap (↑(BitVec.ofInt (64 : Nat) a0 &&& BitVec.ofInt (64 : Nat) (7 : Int)).toNat : Int), t.1, t.2, t_1.1, t_1.2, (3 : Int)) else (q3k.f K a1 a2).bind fun t => (q3w.f K a3 a4).bind fun t_1 => some (IntKind.i64.wrap (↑(BitVec.ofInt (64 : Nat) a0 &&& BitVec.ofInt (64 : Nat) (7 : Int)).toNat : Int), t.1, t.2, t_1.1, t_1.2, IntKind.i64.wrap (↑(BitVec.ofInt (64 : Nat) a5 &&& BitVec.ofInt (64 : Nat) (3 : Int)).toNat : Int))
noncomputable def e (K : Nat) : En M := fnE (m := 0) { hmx := mxd, nt := 28, cs := [q3k.e K, q3w.e K] } 105 Tryz.func105 ⟨sh36, [], sh36, []⟩ [] (fun (x : ((Int × (Bool × (Int × (Int × (Int × Int))))) × Unit)) => f K x.1.1 x.1.2.1 x.1.2.2.1 x.1.2.2.2.1 x.1.2.2.2.2.1 x.1.2.2.2.2.2) (fun x r => ((r.1, r.2.1, r.2.2.1, r.2.2.2.1, r.2.2.2.2.1, r.2.2.2.2.2), ())) fun (x : ((Int × (Bool × (Int × (Int × (Int × Int))))) × Unit)) => by
  refine Eq.trans ?_ q0b.symm
  rw [f]
  try simp only [el]
  kernel_rfl
end q3c
namespace q20
noncomputable def X (K : Nat) : Fx M 0 := { hmx := mxd, nt := 47, cs := [q2s.e K, q3c.e K], cp := [(3, [.bool], [19])] }
noncomputable def l0.f (K : Nat) : Nat → Int → Int → Bool → List q0d → List q0d → Option (List q0d)
  | 0, _, _, _, _, _ => none
  | k + 1, a0, a1, a2, a3, a28 => q1c (bif decide (a1 < a0) then some a2 else some false) fun t => bif t then (q2s.f K).bind fun t => bif decide (a1 < (↑a3.length : Int)) then bif decide ((0 : Int) ≤ a1) && true then a3[a1.toNat]?.bind fun t => (q3c.f K t.1 t.2.1.1 t.2.1.2 t.2.2.1.1 t.2.2.1.2 t.2.2.2).bind fun t => bif (a28.length + [(t.1, (t.2.1, t.2.2.1), (t.2.2.2.1, t.2.2.2.2.1), t.2.2.2.2.2)].length).ble (1000000 : Nat) then l0.f K k a0 (IntKind.i64.wrap (a1 + (1 : Int))) a2 a3 (a28 ++ [(t.1, (t.2.1, t.2.2.1), (t.2.2.2.1, t.2.2.2.2.1), t.2.2.2.2.2)]) else none else none else bif (a28.length + [(t.1, (t.2.1, t.2.2.1), (t.2.2.2.1, t.2.2.2.2.1), t.2.2.2.2.2)].length).ble (1000000 : Nat) then l0.f K k a0 (IntKind.i64.wrap (a1 + (1 : Int))) a2 a3 (a28 ++ [(t.1, (t.2.1, t.2.2.1), (t.2.2.2.1, t.2.2.2.2.1), t.2.2.2.2.2)]) else none else some a28
noncomputable def l0.b (K : Nat) : Lp M 0 := q2d (X K) 3 47 0 (q0o Tryz.f106 0) ⟨[1, 2, 4, 5, 6], (.cons (.ty yI) (.cons (.ptr 0 0) (.cons (.ptr 1 0) (.cons (.ptr 2 0) (.ty yI))))), hs47⟩ ⟨[2, 4, 5], sh33, hs47⟩ K [] (fun k (x : ((Int × (Unit × (Unit × (Unit × Int)))) × ((Bool × ((List q0d) × (Bool × (Int × (Bool × (Int × (Int × (Int × Int)))))))) × ((Bool × (Unit × (Bool × (Int × (Bool × (Int × (Int × (Int × Int)))))))) × ((Bool × (Unit × (Bool × (Int × (Bool × (Int × (Int × (Int × Int)))))))) × ((List q0d) × ((List q0d) × Unit))))))) => l0.f K k x.1.1 x.1.2.2.2.2 x.2.1.1 x.2.1.2.1 x.2.2.2.2.2.1) (fun x r => (((), (), ()), x.2.1, x.2.2.1, x.2.2.2.1, x.2.2.2.2.1, r, ())) fun k (x : ((Int × (Unit × (Unit × (Unit × Int)))) × ((Bool × ((List q0d) × (Bool × (Int × (Bool × (Int × (Int × (Int × Int)))))))) × ((Bool × (Unit × (Bool × (Int × (Bool × (Int × (Int × (Int × Int)))))))) × ((Bool × (Unit × (Bool × (Int × (Bool × (Int × (Int × (Int × Int)))))))) × ((List q0d) × ((List q0d) × Unit))))))) => by
  refine Eq.trans ?_ q0b.symm
  rw [l0.f]
  try simp only [el]
  kernel_rfl
noncomputable def f (K : Nat) (a0 : Bool) (a1 : List q0d) (a2 : Bool) (a3 : Int) (a4 : Bool) (a5 : Int) (a6 : Int) (a7 : Int) (a8 : Int) (a9 : Int) : Option (List q0d × Int × Bool × Int × Int × Int × Int) := (l0.f K K a9 (0 : Int) a0 a1 []).bind fun t => bif a2 then (q3c.f K a3 a4 a5 a6 a7 a8).bind fun t_1 => some (t, t_1.1, t_1.2.1, t_1.2.2.1, t_1.2.2.2.1, t_1.2.2.2.2.1, t_1.2.2.2.2.2) else some (t, (0 : Int), false, (0 : Int), (0 : Int), (0 : Int), (0 : Int))
noncomputable def e (K : Nat) : En M := fnE (X K) 106 Tryz.func106 ⟨sh45, [], sh21, []⟩ [l0.b K] (fun (x : (((Bool × ((List q0d) × (Bool × (Int × (Bool × (Int × (Int × (Int × Int)))))))) × Int) × Unit)) => f K x.1.1.1 x.1.1.2.1 x.1.1.2.2.1 x.1.1.2.2.2.1 x.1.1.2.2.2.2.1 x.1.1.2.2.2.2.2.1 x.1.1.2.2.2.2.2.2.1 x.1.1.2.2.2.2.2.2.2.1 x.1.1.2.2.2.2.2.2.2.2 x.1.2) (fun x r => ((x.1.1.1, r.1, x.1.1.2.2.1, r.2.1, r.2.2.1, r.2.2.2.1, r.2.2.2.2.1, r.2.2.2.2.2.1, r.2.2.2.2.2.2), ())) fun (x : (((Bool × ((List q0d) × (Bool × (Int × (Bool × (Int × (Int × (Int × Int)))))))) × Int) × Unit)) => by
  refine Eq.trans ?_ q0b.symm
  rw [f]
  try simp only [el]
  kernel_rfl
end q20
namespace q58
noncomputable def f (K : Nat) (a1 : List q0d) (a2 : List (List Int)) : Option (Int) := some (if (↑a2.length : Int) < (↑a1.length : Int) then (↑a2.length : Int) else (↑a1.length : Int))
noncomputable def e (K : Nat) : En M := fnE (m := 0) { hmx := mxd, nt := 10, cs := [] } 167 Tryz.func167 ⟨sh48, [], (.ty yI), []⟩ [] (fun (x : ((Bool × ((List q0d) × (List (List Int)))) × Unit)) => f K x.1.2.1 x.1.2.2) (fun x r => (r, ())) fun (x : ((Bool × ((List q0d) × (List (List Int)))) × Unit)) => by
  refine Eq.trans ?_ q0b.symm
  rw [f]
  try simp only [el]
  kernel_rfl
end q58
namespace q1x
noncomputable def X (K : Nat) : Fx M 0 := { hmx := mxd, nt := 60, cs := [], cp := [(6, [.bool], [26]), (8, [.bool], [43])] }
noncomputable def l1.f (K : Nat) : Nat → List Int → Int → Int → List Int → Option (Int)
  | 0, _, _, _, _ => none
  | k + 1, a0, a1, a2, a3 => q1c (bif decide (a2 < (↑a3.length : Int)) then bif decide ((0 : Int) ≤ a2) then bif a2.toNat.blt a3.length then a3[a2.toNat]?.bind fun t => bif decide ((0 : Int) ≤ a1) && true then a0[a1.toNat]?.bind fun t_1 => some (decide (t < t_1)) else none else none else none else some false) fun t => bif t then l1.f K k a0 a1 (IntKind.i64.wrap (a2 + (1 : Int))) a3 else some a2
noncomputable def l1.b (K : Nat) : Lp M 0 := q2d (X K) 6 60 2 (q0o Tryz.f109 1) ⟨[0, 3, 4, 5], sh49, hs1d⟩ ⟨[0, 3, 4, 5], sh49, hs1d⟩ K [] (fun k x => l1.f K k x.1.1 x.1.2.2.1 x.1.2.2.2 x.2.1) (fun x r => ((x.1.1, (), x.1.2.2.1, r), x.2)) fun k x => by
  rw [q0b, l1.f]
  try simp only [el]
  kernel_rfl
noncomputable def l0.f (K : Nat) : Nat → List Int → Int → List Int → Option (List Int)
  | 0, _, _, _ => none
  | k + 1, a0, a1, a2 => bif decide (a1 < (↑a0.length : Int)) then (l1.f K K a0 a1 (0 : Int) a2).bind fun t => q1c (bif decide (t < (↑a2.length : Int)) then bif decide ((0 : Int) ≤ t) then bif t.toNat.blt a2.length then a2[t.toNat]?.bind fun t => bif decide ((0 : Int) ≤ a1) && true then a0[a1.toNat]?.bind fun t_1 => some (t == t_1) else none else none else none else some false) fun t_1 => bif t_1 then l0.f K k a0 (IntKind.i64.wrap (a1 + (1 : Int))) a2 else bif decide ((↑(0 : Nat) : Int) ≤ t) && decide (t ≤ (↑a2.length : Int)) then bif ((0 : Nat) + (t.toNat - (0 : Nat))).ble a2.length then bif ((0 : Nat) + (List.take (t.toNat - (0 : Nat)) (List.drop (0 : Nat) a2)).length).ble (1000000 : Nat) then bif decide ((0 : Int) ≤ a1) && true then a0[a1.toNat]?.bind fun t_2 => bif (([] ++ List.take (t.toNat - (0 : Nat)) (List.drop (0 : Nat) a2)).length + [t_2].length).ble (1000000 : Nat) then bif decide ((0 : Int) ≤ t) && decide (t ≤ (↑a2.length : Int)) && decide ((↑a2.length : Int) ≤ (↑a2.length : Int)) then bif (t.toNat + ((↑a2.length : Int).toNat - t.toNat)).ble a2.length then bif (([] ++ List.take (t.toNat - (0 : Nat)) (List.drop (0 : Nat) a2) ++ [t_2]).length + (List.take ((↑a2.length : Int).toNat - t.toNat) (List.drop t.toNat a2)).length).ble (1000000 : Nat) then l0.f K k a0 (IntKind.i64.wrap (a1 + (1 : Int))) ([] ++ List.take (t.toNat - (0 : Nat)) (List.drop (0 : Nat) a2) ++ [t_2] ++ List.take ((↑a2.length : Int).toNat - t.toNat) (List.drop t.toNat a2)) else none else none else none else none else none else none else none else none else some a2
noncomputable def l0.b (K : Nat) : Lp M 0 := q2d (X K) 3 60 0 (q0o Tryz.f109 0) ⟨[0, 3, 4], (.cons (.ty (.slice yI)) (.cons (.own 0) (.ty yI))), hs1d⟩ ⟨[3], (.own 0), hs1d⟩ K [l1.b K] (fun k x => l0.f K k x.1.1 x.1.2.2 x.2.1) (fun x r => ((), r, ())) fun k x => by
  rw [q0b, l0.f]
  try simp only [el]
  kernel_rfl
noncomputable def f (K : Nat) (a0 : List Int) : Option (List Int) := l0.f K K a0 (0 : Int) []
noncomputable def e (K : Nat) : En M := fnE (X K) 109 Tryz.func109 ⟨sh34, [], sh34, []⟩ [l0.b K, l1.b K] (fun x => f K x.1) (fun x r => (r, ())) fun x => by
  rw [q0b, f]
  try simp only [el]
  kernel_rfl
end q1x
namespace q22
noncomputable def X (K : Nat) : Fx M 0 := { hmx := mxd, nt := 76, cs := [q58.e K, q3c.e K, q1x.e K], cp := [(5, [.bool], [24]), (9, [.bool], [38])] }
noncomputable def l1.f (K : Nat) : Nat → Int → Int → Int → List (List Int) → List Int → Option (List Int)
  | 0, _, _, _, _, _ => none
  | k + 1, a1, a2, a3, a6, a9 => q1c (bif decide ((0 : Int) ≤ a2) && true then a6[a2.toNat]?.bind fun t => bif decide (a3 < (↑(List.length t) : Int)) then some (decide (a3 < (60 : Int))) else some false else none) fun t => bif t then bif decide ((0 : Int) ≤ a2) && true then a6[a2.toNat]?.bind fun t => bif decide ((0 : Int) ≤ a3) && true then t[a3.toNat]?.bind fun t => bif IntKind.u64.wrap a1 == (0 : Int) then none else bif (a9.length + [IntKind.i64.wrap ((IntKind.u64.wrap t).tmod (IntKind.u64.wrap a1))].length).ble (1000000 : Nat) then l1.f K k a1 a2 (IntKind.i64.wrap (a3 + (1 : Int))) a6 (a9 ++ [IntKind.i64.wrap ((IntKind.u64.wrap t).tmod (IntKind.u64.wrap a1))]) else none else none else none else some a9
noncomputable def l1.b (K : Nat) : Lp M 0 := q2d (X K) 9 76 2 (q0o Tryz.f107 1) ⟨[1, 2, 3, 6, 7, 8, 9, 10], (.cons (.ty yI) (.cons (.ty yI) (.cons (.ptr 0 0) (.cons (.ptr 1 0) (.cons (.ptr 2 0) (.cons (.ty yI) (.cons (.own 3) (.ty yI)))))))), hs4c⟩ ⟨[1, 2, 3, 6, 7, 8, 9], (.cons (.ty yI) (.cons (.ty yI) (.cons (.ptr 0 0) (.cons (.ptr 1 0) (.cons (.ptr 2 0) (.cons (.ty yI) (.own 3))))))), hs4c⟩ K [] (fun k (x : ((Int × (Int × (Unit × (Unit × (Unit × (Int × (Unit × Int))))))) × ((Bool × ((List q0d) × (List (List Int)))) × ((Bool × (Unit × Unit)) × ((Bool × (Unit × Unit)) × ((List Int) × ((List q0d) × ((List (List Int)) × ((List q0d) × ((List (List Int)) × Unit)))))))))) => l1.f K k x.1.2.1 x.1.2.2.2.2.2.1 x.1.2.2.2.2.2.2.2 x.2.1.2.2 x.2.2.2.2.1) (fun x r => ((x.1.1, x.1.2.1, (), (), (), x.1.2.2.2.2.2.1, ()), x.2.1, x.2.2.1, x.2.2.2.1, r, x.2.2.2.2.2)) fun k (x : ((Int × (Int × (Unit × (Unit × (Unit × (Int × (Unit × Int))))))) × ((Bool × ((List q0d) × (List (List Int)))) × ((Bool × (Unit × Unit)) × ((Bool × (Unit × Unit)) × ((List Int) × ((List q0d) × ((List (List Int)) × ((List q0d) × ((List (List Int)) × Unit)))))))))) => by
  refine Eq.trans ?_ q0b.symm
  rw [l1.f]
  try simp only [el]
  kernel_rfl
noncomputable def l0.f (K : Nat) : Nat → Int → Int → Int → List q0d → List (List Int) → List q0d → List (List Int) → Option (List q0d × List (List Int))
  | 0, _, _, _, _, _, _, _ => none
  | k + 1, a0, a1, a2, a4, a5, a10, a11 => q1c ((q58.f K a4 a5).bind fun t => bif decide (a2 < t) then some (decide (a2 < a0)) else some false) fun t => bif t then (l1.f K K a1 a2 (0 : Int) a5 []).bind fun t => bif decide ((0 : Int) ≤ a2) && true then a4[a2.toNat]?.bind fun t_1 => (q3c.f K t_1.1 t_1.2.1.1 t_1.2.1.2 t_1.2.2.1.1 t_1.2.2.1.2 t_1.2.2.2).bind fun t_2 => bif (a10.length + [(t_2.1, (t_2.2.1, t_2.2.2.1), (t_2.2.2.2.1, t_2.2.2.2.2.1), t_2.2.2.2.2.2)].length).ble (1000000 : Nat) then (q1x.f K t).bind fun t => bif (a11.length + [t].length).ble (1000000 : Nat) then l0.f K k a0 a1 (IntKind.i64.wrap (a2 + (1 : Int))) a4 a5 (a10 ++ [(t_2.1, (t_2.2.1, t_2.2.2.1), (t_2.2.2.2.1, t_2.2.2.2.2.1), t_2.2.2.2.2.2)]) (a11 ++ [t]) else none else none else none else some (a10, a11)
noncomputable def l0.b (K : Nat) : Lp M 0 := q2d (X K) 5 76 0 (q0o Tryz.f107 0) ⟨[1, 2, 3, 6, 7, 8], (.cons (.ty yI) (.cons (.ty yI) (.cons (.ptr 0 0) (.cons (.ptr 1 0) (.cons (.ptr 2 0) (.ty yI)))))), [hh3c, .cells 158 0 (.cons (.ty .bool) (.cons (.own 3) (.own 4))), .cells 158 0 (.cons (.ty .bool) (.cons (.own 5) (.own 6))), .list 151 q02 [], .list 100 (.slice yI) [], .list 151 q02 [], .list 100 (.slice yI) []]⟩ ⟨[6, 7], sh11, [.cells 158 0 (.cons (.ty .bool) (.cons (.own 2) (.own 3))), .cells 158 0 sh4b, .list 151 q02 [], .list 100 (.slice yI) [], .list 151 q02 [], .list 100 (.slice yI) []]⟩ K [l1.b K] (fun k (x : ((Int × (Int × (Unit × (Unit × (Unit × Int))))) × ((Bool × ((List q0d) × (List (List Int)))) × ((Bool × (Unit × Unit)) × ((Bool × (Unit × Unit)) × ((List q0d) × ((List (List Int)) × ((List q0d) × ((List (List Int)) × Unit))))))))) => l0.f K k x.1.1 x.1.2.1 x.1.2.2.2.2.2 x.2.1.2.1 x.2.1.2.2 x.2.2.2.2.2.2.1 x.2.2.2.2.2.2.2.1) (fun x r => (((), ()), x.2.2.1, x.2.2.2.1, x.2.2.2.2.1, x.2.2.2.2.2.1, r.1, r.2, ())) fun k (x : ((Int × (Int × (Unit × (Unit × (Unit × Int))))) × ((Bool × ((List q0d) × (List (List Int)))) × ((Bool × (Unit × Unit)) × ((Bool × (Unit × Unit)) × ((List q0d) × ((List (List Int)) × ((List q0d) × ((List (List Int)) × Unit))))))))) => by
  refine Eq.trans ?_ q0b.symm
  rw [l0.f]
  try simp only [el]
  kernel_rfl
noncomputable def f (K : Nat) (a0 : Bool) (a1 : List q0d) (a2 : List (List Int)) (a3 : Int) (a4 : Int) : Option (Bool × List q0d × List (List Int)) := bif !a0 then some (false, [], []) else (l0.f K K a3 a4 (0 : Int) a1 a2 [] []).bind fun t => some (true, t.1, t.2)
noncomputable def e (K : Nat) : En M := fnE (X K) 107 Tryz.func107 ⟨sh4a, [], (.agg (.cons (.ty .bool) (.cons (.own 0) (.own 1)))), [.list 151 q02 [], .list 100 (.slice yI) []]⟩ [l0.b K, l1.b K] (fun (x : (((Bool × ((List q0d) × (List (List Int)))) × (Int × Int)) × Unit)) => f K x.1.1.1 x.1.1.2.1 x.1.1.2.2 x.1.2.1 x.1.2.2) (fun x r => ((r.1, (), ()), r.2.1, r.2.2, ())) fun (x : (((Bool × ((List q0d) × (List (List Int)))) × (Int × Int)) × Unit)) => by
  refine Eq.trans ?_ q0b.symm
  rw [f]
  try simp only [el]
  kernel_rfl
end q22
namespace q1j
noncomputable def X (K : Nat) : Fx M 0 := { hmx := mxd, nt := 200, cs := [q1n.e K, q3c.e K, q20.e K, q06.e K, q22.e K, q2s.e K, q1x.e K], rf := [(29, ⟨[2, 3, 4, 5, 8, 9, 10, 11, 13, 14], sh4e, [hh3, hh25, hh3e, .cells 54 0 sh4f, hh7, hh3c, .list 3 yI [], .list 151 q02 [], .list 156 q1r [], .list 153 ySum [], .list 151 q02 [], .list 156 (.pair ySum (.own 0)) [13], .list 153 ySum [], .many 160 q1g]⟩)], cp := [(3, [.bool], [29]), (7, [.bool], [53]), (12, [.bool], [86]), (17, [.bool], [123]), (21, [.bool], [150]), (26, [.bool], [170])], pr := [(30, [.shape 0 200 ⟨[4, 5], sh11, hs41⟩, .deep 6])] }
noncomputable def l5.f (K : Nat) : Nat → Int → Int → List Int → List Int → Option (List Int)
  | 0, _, _, _, _ => none
  | k + 1, a3, a12, a17, a19 => q1c (bif decide (a3 < (↑a17.length : Int)) then some (decide (a3 < (20 : Int))) else some false) fun t => bif t then bif decide ((0 : Int) ≤ a3) && true then a17[a3.toNat]?.bind fun t => bif IntKind.u64.wrap a12 == (0 : Int) then none else bif (a19.length + [IntKind.i64.wrap ((IntKind.u64.wrap t).tmod (IntKind.u64.wrap a12))].length).ble (1000000 : Nat) then l5.f K k (IntKind.i64.wrap (a3 + (1 : Int))) a12 a17 (a19 ++ [IntKind.i64.wrap ((IntKind.u64.wrap t).tmod (IntKind.u64.wrap a12))]) else none else none else some a19
noncomputable def l5.b (K : Nat) : Lp M 0 := q2d (X K) 26 200 10 (q0o Tryz.f56 5) ⟨[2, 3, 4, 5, 8, 9, 10, 11, 12, 13, 14, 15], (.cons (.ptr 0 0) (.cons (.ptr 1 0) (.cons (.ptr 2 0) (.cons (.ptr 3 0) (.cons (.ty yI) (.cons (.ty yI) (.cons (.ptr 4 0) (.cons (.ty yI) (.cons (.ptr 5 0) (.cons (.ptr 6 0) (.cons (.own 7) (.ty yI)))))))))))), [hh3, hh25, .cells 54 0 sh3a, .cells 54 0 (.cons (.own 11) (.cons (.own 12) (.own 13))), hh7, .cells 160 0 sh29, .cells 158 0 (.cons (.ty .bool) (.cons (.own 14) (.own 15))), .list 3 yI [], .list 151 q02 [], .list 156 q1r [], .list 153 ySum [], .list 151 q02 [], .list 156 (.pair ySum (.own 0)) [16], .list 153 ySum [], .list 151 q02 [], .list 100 (.slice yI) [], .many 160 q1g]⟩ ⟨[2, 3, 4, 5, 8, 9, 10, 11, 13, 14], sh4e, [hh3, hh25, hh3e, .cells 54 0 sh4f, hh7, .cells 158 0 (.cons (.ty .bool) (.cons (.own 13) (.own 14))), .list 3 yI [], .list 151 q02 [], .list 156 q1r [], .list 153 ySum [], .list 151 q02 [], .list 156 (.pair ySum (.own 0)) [15], .list 153 ySum [], .list 151 q02 [], .list 100 (.slice yI) [], .many 160 q1g]⟩ K [] (fun k (x : ((Unit × (Unit × (Unit × (Unit × (Int × (Int × (Unit × (Int × (Unit × (Unit × (Unit × Int))))))))))) × (((List Int) × ((List q0t) × (List q0h))) × (((List q0d) × ((List q0l) × (List LSum))) × ((Unit × (Unit × Unit)) × ((Unit × (Unit × Unit)) × ((ByteArray × (Int × (Int × (List q1k)))) × ((Bool × ((List q0d) × ((List (List Int)) × (List Int)))) × ((Bool × (Unit × Unit)) × ((List Int) × ((List q0d) × ((List q0l) × ((List LSum) × ((List q0d) × ((List (LSum × Nat)) × ((List LSum) × ((List q0d) × ((List (List Int)) × ((List (Option (List q0j))) × Unit))))))))))))))))))) => l5.f K k x.1.2.2.2.2.2.2.2.2.2.2.2 x.2.2.2.2.2.1.2.2.1 x.2.2.2.2.2.2.1.2.2.2 x.2.2.2.2.2.2.2.2.1) (fun x r => (((), (), (), (), x.1.2.2.2.2.1, x.1.2.2.2.2.2.1, (), x.1.2.2.2.2.2.2.2.1, (), ()), x.2.1, x.2.2.1, ((), (), ()), ((), (), ()), x.2.2.2.2.2.1, x.2.2.2.2.2.2.2.1, r, x.2.2.2.2.2.2.2.2.2)) fun k (x : ((Unit × (Unit × (Unit × (Unit × (Int × (Int × (Unit × (Int × (Unit × (Unit × (Unit × Int))))))))))) × (((List Int) × ((List q0t) × (List q0h))) × (((List q0d) × ((List q0l) × (List LSum))) × ((Unit × (Unit × Unit)) × ((Unit × (Unit × Unit)) × ((ByteArray × (Int × (Int × (List q1k)))) × ((Bool × ((List q0d) × ((List (List Int)) × (List Int)))) × ((Bool × (Unit × Unit)) × ((List Int) × ((List q0d) × ((List q0l) × ((List LSum) × ((List q0d) × ((List (LSum × Nat)) × ((List LSum) × ((List q0d) × ((List (List Int)) × ((List (Option (List q0j))) × Unit))))))))))))))))))) => by
  refine Eq.trans ?_ q0b.symm
  rw [l5.f]
  try simp only [el]
  kernel_rfl
noncomputable def l4.f (K : Nat) : Nat → Int → Bool → List q0d → List (List Int) → Option (List q0d × List (List Int))
  | 0, _, _, _, _ => none
  | k + 1, a11, a17, a24, a25 => q1c (bif decide ((↑a24.length : Int) < a11) then some a17 else some false) fun t => bif t then (q2s.f K).bind fun t => bif (a24.length + [(t.1, (t.2.1, t.2.2.1), (t.2.2.2.1, t.2.2.2.2.1), t.2.2.2.2.2)].length).ble (1000000 : Nat) then bif (a25.length + (1 : Nat)).ble (1000000 : Nat) then l4.f K k a11 a17 (a24 ++ [(t.1, (t.2.1, t.2.2.1), (t.2.2.2.1, t.2.2.2.2.1), t.2.2.2.2.2)]) (a25 ++ [[]]) else none else none else some (a24, a25)
noncomputable def l4.b (K : Nat) : Lp M 0 := q2d (X K) 21 200 8 (q0o Tryz.f56 4) ⟨[2, 3, 4, 5, 8, 9, 10, 11, 12, 13], sh50, hs51⟩ ⟨[2, 3, 4, 5, 8, 9, 10, 11, 12, 13], sh50, hs51⟩ K [] (fun k (x : ((Unit × (Unit × (Unit × (Unit × (Int × (Int × (Unit × (Int × (Unit × Unit))))))))) × (((List Int) × ((List q0t) × (List q0h))) × (((List q0d) × ((List q0l) × (List LSum))) × ((Unit × (Unit × Unit)) × ((Unit × (Unit × Unit)) × ((ByteArray × (Int × (Int × (List q1k)))) × ((Bool × ((List q0d) × ((List (List Int)) × (List Int)))) × ((Bool × (Unit × Unit)) × ((List q0d) × ((List q0l) × ((List LSum) × ((List q0d) × ((List (LSum × Nat)) × ((List LSum) × ((List q0d) × ((List (List Int)) × ((List (Option (List q0j))) × Unit)))))))))))))))))) => l4.f K k x.2.2.2.2.2.1.2.2.1 x.2.2.2.2.2.2.2.1.1 x.2.2.2.2.2.2.2.2.2.2.2.2.2.2.1 x.2.2.2.2.2.2.2.2.2.2.2.2.2.2.2.1) (fun x r => (x.1, x.2.1, x.2.2.1, ((), (), ()), ((), (), ()), x.2.2.2.2.2.1, x.2.2.2.2.2.2.1, x.2.2.2.2.2.2.2.1, x.2.2.2.2.2.2.2.2.1, x.2.2.2.2.2.2.2.2.2.1, x.2.2.2.2.2.2.2.2.2.2.1, x.2.2.2.2.2.2.2.2.2.2.2.1, x.2.2.2.2.2.2.2.2.2.2.2.2.1, x.2.2.2.2.2.2.2.2.2.2.2.2.2.1, r.1, r.2, x.2.2.2.2.2.2.2.2.2.2.2.2.2.2.2.2)) fun k (x : ((Unit × (Unit × (Unit × (Unit × (Int × (Int × (Unit × (Int × (Unit × Unit))))))))) × (((List Int) × ((List q0t) × (List q0h))) × (((List q0d) × ((List q0l) × (List LSum))) × ((Unit × (Unit × Unit)) × ((Unit × (Unit × Unit)) × ((ByteArray × (Int × (Int × (List q1k)))) × ((Bool × ((List q0d) × ((List (List Int)) × (List Int)))) × ((Bool × (Unit × Unit)) × ((List q0d) × ((List q0l) × ((List LSum) × ((List q0d) × ((List (LSum × Nat)) × ((List LSum) × ((List q0d) × ((List (List Int)) × ((List (Option (List q0j))) × Unit)))))))))))))))))) => by
  refine Eq.trans ?_ q0b.symm
  rw [l4.f]
  try simp only [el]
  kernel_rfl
noncomputable def l3.f (K : Nat) : Nat → Int → Int → Int → List q0l → Int → List q1k → List (LSum × Nat) → List (Option (List q0j)) → Option (List (Option (List q0j)))
  | 0, _, _, _, _, _, _, _, _ => none
  | k + 1, a0, a1, a2, a7, a11, a12, a17, a19 => q1c (bif decide (a2 < (↑a12.length : Int)) then bif decide ((0 : Int) ≤ a1) && true then a7[a1.toNat]?.bind fun t => some (decide (a2 < (↑(List.length t.2) : Int))) else none else some false) fun t => bif t then bif decide ((0 : Int) ≤ a1) && true then a7[a1.toNat]?.bind fun t => bif decide ((0 : Int) ≤ a2) && true then t.2[a2.toNat]?.bind fun t => (q22.f K t.1.1 t.1.2.1 t.1.2.2 a11 a0).bind fun t_1 => (l4.f K K a11 t_1.1 t_1.2.1 t_1.2.2).bind fun t_2 => (l5.f K K (0 : Int) a11 t.2 []).bind fun t => bif decide ((0 : Int) ≤ a1) then bif a1.toNat.blt a17.length then a17[a1.toNat]?.bind fun t_3 => (q1x.f K t).bind fun t => q1c (a19[t_3.2]?.bind fun t => t.bind fun t => some t.length) fun t_4 => bif decide ((0 : Int) ≤ a2) then bif a2.toNat.blt t_4 then a19[t_3.2]?.bind fun t_5 => t_5.bind fun t_6 => t_6[a2.toNat]?.bind fun t_7 => l3.f K k a0 a1 (IntKind.i64.wrap (a2 + (1 : Int))) a7 a11 a12 a17 (a19.set t_3.2 (some (t_6.set a2.toNat ((t_1.1, t_2.1, t_2.2), t)))) else none else none else none else none else none else none else some a19
noncomputable def l3.b (K : Nat) : Lp M 0 := q2d (X K) 17 200 6 (q0o Tryz.f56 3) ⟨[2, 3, 4, 5, 8, 9, 10, 11], (.cons (.ptr 0 0) (.cons (.ptr 1 0) (.cons (.ptr 2 0) (.cons (.ptr 3 0) (.cons (.ty yI) (.cons (.ty yI) (.cons (.ptr 4 0) (.ty yI)))))))), [hh3, hh25, hh26, .cells 54 0 sh3a, hh7, .list 151 q02 [], .list 156 q1r [], .list 153 ySum [], .list 151 q02 [], .list 156 (.pair ySum (.own 0)) [11], .list 153 ySum [], .many 160 q1g]⟩ ⟨[2, 3, 4, 5, 8, 9], sh52, hs53⟩ K [l4.b K, l5.b K] (fun k x => l3.f K k x.1.2.2.2.2.1 x.1.2.2.2.2.2.1 x.1.2.2.2.2.2.2.2 x.2.2.1.2.1 x.2.2.2.2.2.1.2.2.1 x.2.2.2.2.2.1.2.2.2 x.2.2.2.2.2.2.2.2.2.2.1 x.2.2.2.2.2.2.2.2.2.2.2.2.1) (fun x r => (((), (), (), (), x.1.2.2.2.2.1, x.1.2.2.2.2.2.1), x.2.1, x.2.2.1, ((), (), ()), ((), (), ()), x.2.2.2.2.2.2.1, x.2.2.2.2.2.2.2.1, x.2.2.2.2.2.2.2.2.1, x.2.2.2.2.2.2.2.2.2.1, x.2.2.2.2.2.2.2.2.2.2.1, x.2.2.2.2.2.2.2.2.2.2.2.1, r, ())) fun k x => by
  rw [q0b, l3.f]
  try simp only [el]
  kernel_rfl
noncomputable def l2.f (K : Nat) : Nat → Int → Int → List q0t → List q0l → List (LSum × Nat) → List (Option (List q0j)) → Option ((List (LSum × Nat)) × List (Option (List q0j)))
  | 0, _, _, _, _, _, _ => none
  | k + 1, a0, a1, a3, a6, a12, a14 => q1c (bif decide (a1 < (↑a12.length : Int)) then some (decide (a1 < (↑a6.length : Int))) else some false) fun t => bif t then bif decide ((0 : Int) ≤ a1) && true then a3[a1.toNat]?.bind fun t => bif decide ((0 : Int) ≤ a1) && true then a6[a1.toNat]?.bind fun t_1 => (q20.f K t_1.1.1 t_1.1.2.1 t_1.1.2.2.1 t_1.1.2.2.2.1 t_1.1.2.2.2.2.1.1 t_1.1.2.2.2.2.1.2 t_1.1.2.2.2.2.2.1.1 t_1.1.2.2.2.2.2.1.2 t_1.1.2.2.2.2.2.2 t.2.1).bind fun t_2 => bif decide ((0 : Int) ≤ a1) then bif a1.toNat.blt a12.length then a12[a1.toNat]?.bind fun t_3 => (l3.f K K a0 a1 (0 : Int) a6 t.2.2.1 t.2.2.2 (a12.set a1.toNat ((t_1.1.1, t_2.1, t_1.1.2.2.1, t_2.2.1, (t_2.2.2.1, t_2.2.2.2.1), (t_2.2.2.2.2.1, t_2.2.2.2.2.2.1), t_2.2.2.2.2.2.2), t_3.2)) a14).bind fun t => l2.f K k a0 (IntKind.i64.wrap (a1 + (1 : Int))) a3 a6 (a12.set a1.toNat ((t_1.1.1, t_2.1, t_1.1.2.2.1, t_2.2.1, (t_2.2.2.1, t_2.2.2.2.1), (t_2.2.2.2.2.1, t_2.2.2.2.2.2.1), t_2.2.2.2.2.2.2), t_3.2)) t else none else none else none else none else some (a12, a14)
noncomputable def l2.b (K : Nat) : Lp M 0 := q2d (X K) 12 200 4 (q0o Tryz.f56 2) ⟨[2, 3, 4, 5, 8, 9], sh52, hs53⟩ ⟨[4, 5], sh11, hs41⟩ K [l3.b K, l4.b K, l5.b K] (fun k x => l2.f K k x.1.2.2.2.2.1 x.1.2.2.2.2.2 x.2.1.2.1 x.2.2.1.2.1 x.2.2.2.2.2.2.2.2.2.1 x.2.2.2.2.2.2.2.2.2.2.2.1) (fun x r => (((), ()), ((), (), ()), ((), (), ()), x.2.2.2.2.2.1, x.2.2.2.2.2.2.1, x.2.2.2.2.2.2.2.1, x.2.2.2.2.2.2.2.2.1, r.1, x.2.2.2.2.2.2.2.2.2.2.1, r.2, ())) fun k x => by
  rw [q0b, l2.f]
  try simp only [el]
  kernel_rfl
noncomputable def l1.f (K : Nat) : Nat → Int → List q0h → List LSum → List LSum → Option (List LSum)
  | 0, _, _, _, _ => none
  | k + 1, a0, a3, a6, a12 => q1c (bif decide (a0 < (↑a12.length : Int)) then some (decide (a0 < (↑a6.length : Int))) else some false) fun t => bif t then bif decide ((0 : Int) ≤ a0) && true then a6[a0.toNat]?.bind fun t => bif decide ((0 : Int) ≤ a0) && true then a3[a0.toNat]?.bind fun t_1 => (q20.f K t.1 t.2.1 t.2.2.1 t.2.2.2.1 t.2.2.2.2.1.1 t.2.2.2.2.1.2 t.2.2.2.2.2.1.1 t.2.2.2.2.2.1.2 t.2.2.2.2.2.2 t_1.2).bind fun t_2 => bif decide ((0 : Int) ≤ a0) then bif a0.toNat.blt a12.length then a12[a0.toNat]?.bind fun t_3 => l1.f K k (IntKind.i64.wrap (a0 + (1 : Int))) a3 a6 (a12.set a0.toNat (t.1, t_2.1, t.2.2.1, t_2.2.1, (t_2.2.2.1, t_2.2.2.2.1), (t_2.2.2.2.2.1, t_2.2.2.2.2.2.1), t_2.2.2.2.2.2.2)) else none else none else none else none else some a12
noncomputable def l1.b (K : Nat) : Lp M 0 := q2d (X K) 7 200 2 (q0o Tryz.f56 1) ⟨[2, 3, 4, 5, 7], sh54, hs53⟩ ⟨[2, 3, 4, 5], sh55, hs53⟩ K [] (fun k x => l1.f K k x.1.2.2.2.2 x.2.1.2.2 x.2.2.1.2.2 x.2.2.2.2.2.2.2.2.2.2.1) (fun x r => (((), (), (), ()), x.2.1, x.2.2.1, ((), (), ()), ((), (), ()), x.2.2.2.2.2.1, x.2.2.2.2.2.2.1, x.2.2.2.2.2.2.2.1, x.2.2.2.2.2.2.2.2.1, x.2.2.2.2.2.2.2.2.2.1, r, x.2.2.2.2.2.2.2.2.2.2.2)) fun k x => by
  rw [q0b, l1.f]
  try simp only [el]
  kernel_rfl
noncomputable def l0.f (K : Nat) : Nat → Int → List q0d → List q0d → Option (List q0d)
  | 0, _, _, _ => none
  | k + 1, a0, a4, a10 => q1c (bif decide (a0 < (↑a10.length : Int)) then some (decide (a0 < (↑a4.length : Int))) else some false) fun t => bif t then bif decide ((0 : Int) ≤ a0) && true then a4[a0.toNat]?.bind fun t => (q3c.f K t.1 t.2.1.1 t.2.1.2 t.2.2.1.1 t.2.2.1.2 t.2.2.2).bind fun t => bif decide ((0 : Int) ≤ a0) then bif a0.toNat.blt a10.length then a10[a0.toNat]?.bind fun t_1 => l0.f K k (IntKind.i64.wrap (a0 + (1 : Int))) a4 (a10.set a0.toNat (t.1, (t.2.1, t.2.2.1), (t.2.2.2.1, t.2.2.2.2.1), t.2.2.2.2.2)) else none else none else none else some a10
noncomputable def l0.b (K : Nat) : Lp M 0 := q2d (X K) 3 200 0 (q0o Tryz.f56 0) ⟨[2, 3, 4, 5, 6], sh54, hs53⟩ ⟨[2, 3, 4, 5], sh55, hs53⟩ K [] (fun k x => l0.f K k x.1.2.2.2.2 x.2.2.1.1 x.2.2.2.2.2.2.2.2.1) (fun x r => (((), (), (), ()), x.2.1, x.2.2.1, ((), (), ()), ((), (), ()), x.2.2.2.2.2.1, x.2.2.2.2.2.2.1, x.2.2.2.2.2.2.2.1, r, x.2.2.2.2.2.2.2.2.2)) fun k x => by
  rw [q0b, l0.f]
  try simp only [el]
  kernel_rfl
noncomputable def f (K : Nat) (a0 : List Int) (a1 : List q0t) (a2 : List q0h) (a3 : List q0d) (a4 : List q0l) (a5 : List LSum) : Option (List q0d × List q0l × List LSum) := (q1n.f K a0 a1 a2).bind fun t => (l0.f K K (0 : Int) a3 t.1).bind fun t_1 => (l1.f K K (0 : Int) a2 a5 t.2.2.1).bind fun t_2 => (q06.f K a1).bind fun t_3 => (l2.f K K (↑t_3.length : Int) (0 : Int) a1 a4 t.2.1 t.2.2.2).bind fun t => bif t.1.all (z2a t.2 (ySum.pair (Ty.own (0 : Nat)))) then some (t_1, List.map (z1d q1g t.2 (ySum.pair (Ty.own (0 : Nat)))) t.1, t_2) else none
noncomputable def e (K : Nat) : En M := fnE (X K) 56 Tryz.func56 ⟨sh4d, [], sh22, []⟩ [l0.b K, l1.b K, l2.b K, l3.b K, l4.b K, l5.b K] (fun x => f K x.1.1.1 x.1.1.2.1 x.1.1.2.2 x.1.2.1 x.1.2.2.1 x.1.2.2.2) (fun x r => ((r.1, r.2.1, r.2.2), ())) fun x => by
  rw [q0b, f]
  try simp only [el]
  kernel_rfl
end q1j
namespace q4z
noncomputable def X (K : Nat) : Fx M 0 := { hmx := mxd, nt := 31, cs := [q14.e K, q1b.e K, q06.e K, q1v.e K, q1j.e K], cp := [(3, [.bool], [23])] }
noncomputable def f (K : Nat) (a0 : List Int) (a1 : List q0t) (a2 : List q0h) (a3 : List q0d) (a4 : List q0l) (a5 : List LSum) : Option (List Int × List q0t × List q0h × List q0d × List q0l × List LSum × Bool) := (q14.f K a0 a1 a2).bind fun t => (q1b.f K t.1 t.2.1 t.2.2).bind fun t_1 => q1c (bif t_1.1 != (0 : Int) then some true else (q06.f K t.2.1).bind fun t => some (decide ((↑t.length : Int) > (200 : Int)))) fun t_2 => bif t_2 then some (t.1, t.2.1, t.2.2, a3, a4, a5, false) else (q1v.f K a3 a4 a5).bind fun t_3 => (q1j.f K t.1 t.2.1 t.2.2 t_3.1 t_3.2.1 t_3.2.2).bind fun t_4 => some (t.1, t.2.1, t.2.2, t_4.1, t_4.2.1, t_4.2.2, true)
noncomputable def e (K : Nat) : En M := fnE (X K) 13 Tryz.func13 ⟨sh4d, [], sh56, []⟩ [] (fun x => f K x.1.1.1 x.1.1.2.1 x.1.1.2.2 x.1.2.1 x.1.2.2.1 x.1.2.2.2) (fun x r => (((r.1, r.2.1, r.2.2.1), (r.2.2.2.1, r.2.2.2.2.1, r.2.2.2.2.2.1), r.2.2.2.2.2.2), ())) fun x => by
  rw [q0b, f]
  try simp only [el]
  kernel_rfl
end q4z
namespace q7t
noncomputable def f (K : Nat) : Option (List Int × List q0t × List q0h) := some ([], [(ByteArray.mk #[(109 : UInt8), (97 : UInt8), (105 : UInt8), (110 : UInt8)], (0 : Int), (2 : Int), [([((1 : Int), (1 : Int), (0 : Int), (0 : Int), (5 : Int), [])], (3 : Int), (1 : Int), (0 : Int), (0 : Int))])], [])
noncomputable def e (K : Nat) : En M := fnE (m := 0) { hmx := mxd, nt := 9, cs := [] } 25 Tryz.func25 ⟨.unit, [], sh0, []⟩ [] (fun x => f K) (fun x r => ((r.1, r.2.1, r.2.2), ())) fun x => by
  rw [q0b, f]
  try simp only [el]
  kernel_rfl
end q7t
namespace q6s
noncomputable def f (K : Nat) : Option (Unit) := some ()
noncomputable def e (K : Nat) : En M := fnE (m := 0) { hmx := mxd, nt := 12, cs := [] } 111 Tryz.func111 ⟨sh57, [], sh57, []⟩ [] (fun x => f K) (fun x r => x) fun x => by
  rw [q0b, f]
  try simp only [el]
  kernel_rfl
end q6s
namespace q5a
noncomputable def f (K : Nat) (a5 : List Int) : Option (List Int) := bif ((0 : Nat) + a5.length).ble (1000000 : Nat) then some ([] ++ a5) else none
noncomputable def e (K : Nat) : En M := fnE (m := 0) { hmx := mxd, nt := 18, cs := [] } 112 Tryz.func112 ⟨sh58, [], sh58, []⟩ [] (fun x => f K x.1.2.2.2.2.2) (fun x r => ((x.1.1, x.1.2.1, x.1.2.2.1, x.1.2.2.2.1, x.1.2.2.2.2.1, r), ())) fun x => by
  rw [q0b, f]
  try simp only [el]
  kernel_rfl
end q5a
namespace q2t
noncomputable def X (K : Nat) : Fx M 0 := { hmx := mxd, nt := 62, cs := [q6s.e K, q5a.e K], rf := [(10, ⟨[1, 2, 3, 4, 5], sha, [hh7, hh5a, .cells 78 0 sh5b, hh5c, .list 106 q3f [], .list 106 q3f []]⟩)] }
noncomputable def l1.f (K : Nat) : Nat → Int → Int → List q1k → List q32 → Option (List q32)
  | 0, _, _, _, _ => none
  | k + 1, a0, a1, a5, a18 => bif decide ((0 : Int) ≤ a0) && true then a5[a0.toNat]?.bind fun t => bif decide (a1 < (↑(List.length t.1) : Int)) then bif decide ((0 : Int) ≤ a0) && true then a5[a0.toNat]?.bind fun t => bif decide ((0 : Int) ≤ a1) && true then t.1[a1.toNat]?.bind fun t => (q5a.f K t.2.2.2.2.2).bind fun t_1 => bif (a18.length + [(t.1, t.2.1, t.2.2.1, t.2.2.2.1, t.2.2.2.2.1, t_1)].length).ble (1000000 : Nat) then l1.f K k a0 (IntKind.i64.wrap (a1 + (1 : Int))) a5 (a18 ++ [(t.1, t.2.1, t.2.2.1, t.2.2.2.1, t.2.2.2.2.1, t_1)]) else none else none else none else some a18 else none
noncomputable def l1.b (K : Nat) : Lp M 0 := q2d (X K) 7 62 2 (q0o Tryz.f58 1) ⟨[1, 2, 3, 4, 5, 6], sh30, hs5d⟩ ⟨[1, 2, 3, 4, 5], sha, hs5d⟩ K [] (fun k x => l1.f K k x.1.2.2.2.1 x.1.2.2.2.2.2 x.2.1.2.2.2 x.2.2.2.2.2.2.2.1) (fun x r => (((), (), (), x.1.2.2.2.1, ()), x.2.1, x.2.2.1, x.2.2.2.1, x.2.2.2.2.1, x.2.2.2.2.2.1, x.2.2.2.2.2.2.1, r, ())) fun k x => by
  rw [q0b, l1.f]
  try simp only [el]
  kernel_rfl
noncomputable def l0.f (K : Nat) : Nat → Int → List q1k → List q1k → Option (List q1k)
  | 0, _, _, _ => none
  | k + 1, a0, a4, a12 => bif decide (a0 < (↑a4.length : Int)) then bif decide ((0 : Int) ≤ a0) && true then a4[a0.toNat]?.bind fun t => (q6s.f K).bind fun t_1 => (l1.f K K a0 (0 : Int) a4 []).bind fun t_2 => bif (a12.length + [(t_2, t.2.1, t.2.2.1, t.2.2.2.1, t.2.2.2.2)].length).ble (1000000 : Nat) then l0.f K k (IntKind.i64.wrap (a0 + (1 : Int))) a4 (a12 ++ [(t_2, t.2.1, t.2.2.1, t.2.2.2.1, t.2.2.2.2)]) else none else none else some a12
noncomputable def l0.b (K : Nat) : Lp M 0 := q2d (X K) 3 62 0 (q0o Tryz.f58 0) ⟨[1, 2, 3, 4], shf, [hh7, .cells 78 0 sh5e, hh5a, .list 106 q3f [], .list 106 q3f []]⟩ ⟨[2, 3], sh11, hs5f⟩ K [l1.b K] (fun k x => l0.f K k x.1.2.2.2 x.2.1.2.2.2 x.2.2.2.2.2.1) (fun x r => (((), ()), x.2.2.1, x.2.2.2.1, x.2.2.2.2.1, r, ())) fun k x => by
  rw [q0b, l0.f]
  try simp only [el]
  kernel_rfl
noncomputable def f (K : Nat) (a3 : List q1k) : Option (List q1k) := l0.f K K (0 : Int) a3 []
noncomputable def e (K : Nat) : En M := fnE (X K) 58 Tryz.func58 ⟨sh59, [], sh59, []⟩ [l0.b K, l1.b K] (fun x => f K x.1.2.2.2) (fun x r => ((x.1.1, x.1.2.1, x.1.2.2.1, r), ())) fun x => by
  rw [q0b, f]
  try simp only [el]
  kernel_rfl
end q2t
namespace q17
noncomputable def X (K : Nat) : Fx M 0 := { hmx := mxd, nt := 55, cs := [q2t.e K] }
noncomputable def l1.f (K : Nat) : Nat → Int → List q0h → List q0h → Option (List q0h)
  | 0, _, _, _ => none
  | k + 1, a0, a3, a9 => bif decide (a0 < (↑a3.length : Int)) then bif decide ((0 : Int) ≤ a0) && true then a3[a0.toNat]?.bind fun t => bif decide ((0 : Int) ≤ a0) && true then a3[a0.toNat]?.bind fun t_1 => bif (a9.length + [(t.1, t_1.2)].length).ble (1000000 : Nat) then l1.f K k (IntKind.i64.wrap (a0 + (1 : Int))) a3 (a9 ++ [(t.1, t_1.2)]) else none else none else none else some a9
noncomputable def l1.b (K : Nat) : Lp M 0 := q2d (X K) 7 55 2 (q0o Tryz.f14 1) ⟨[1, 2, 3, 5], shf, hs60⟩ ⟨[2, 3], sh11, hs61⟩ K [] (fun k x => l1.f K k x.1.2.2.2 x.2.1.2.2 x.2.2.2.2.2.2.2.2.2.1) (fun x r => (((), ()), ((), (), ()), ((), (), ()), x.2.2.2.2.1, x.2.2.2.2.2.1, x.2.2.2.2.2.2.1, x.2.2.2.2.2.2.2.1, x.2.2.2.2.2.2.2.2.1, r, ())) fun k x => by
  rw [q0b, l1.f]
  try simp only [el]
  kernel_rfl
noncomputable def l0.f (K : Nat) : Nat → Int → List q0t → List q0t → Option (List q0t)
  | 0, _, _, _ => none
  | k + 1, a0, a2, a8 => bif decide (a0 < (↑a2.length : Int)) then bif decide ((0 : Int) ≤ a0) && true then a2[a0.toNat]?.bind fun t => (q2t.f K t.2.2.2).bind fun t_1 => bif (a8.length + [(t.1, t.2.1, t.2.2.1, t_1)].length).ble (1000000 : Nat) then l0.f K k (IntKind.i64.wrap (a0 + (1 : Int))) a2 (a8 ++ [(t.1, t.2.1, t.2.2.1, t_1)]) else none else none else some a8
noncomputable def l0.b (K : Nat) : Lp M 0 := q2d (X K) 3 55 0 (q0o Tryz.f14 0) ⟨[1, 2, 3, 4], shf, hs60⟩ ⟨[1, 2, 3], sh33, hs60⟩ K [] (fun k x => l0.f K k x.1.2.2.2 x.2.1.2.1 x.2.2.2.2.2.2.2.2.1) (fun x r => (((), (), ()), x.2.1, ((), (), ()), ((), (), ()), x.2.2.2.2.1, x.2.2.2.2.2.1, x.2.2.2.2.2.2.1, x.2.2.2.2.2.2.2.1, r, x.2.2.2.2.2.2.2.2.2)) fun k x => by
  rw [q0b, l0.f]
  try simp only [el]
  kernel_rfl
noncomputable def f (K : Nat) (a0 : List Int) (a1 : List q0t) (a2 : List q0h) : Option (List Int × List q0t × List q0h) := bif ((0 : Nat) + a0.length).ble (1000000 : Nat) then (l0.f K K (0 : Int) a1 []).bind fun t => (l1.f K K (0 : Int) a2 []).bind fun t_1 => some ([] ++ a0, t, t_1) else none
noncomputable def e (K : Nat) : En M := fnE (X K) 14 Tryz.func14 ⟨sh0, [], sh0, []⟩ [l0.b K, l1.b K] (fun x => f K x.1.1 x.1.2.1 x.1.2.2) (fun x r => ((r.1, r.2.1, r.2.2), ())) fun x => by
  rw [q0b, f]
  try simp only [el]
  kernel_rfl
end q17
namespace q6p
noncomputable def X (K : Nat) : Fx M 0 := { hmx := mxd, nt := 45, cs := [], cp := [(4, [.bool, .bool], [5, 6]), (5, [.bool], [36]), (8, [.bool], [2])] }
noncomputable def l0.f (K : Nat) : Nat → List Int → Int → Int → Option ((Unit) ⊕ (Bool))
  | 0, _, _, _ => none
  | k + 1, a1, a2, a3 => bif decide (a3 < a2) then bif decide ((0 : Int) ≤ a3) && true then a1[a3.toNat]?.bind fun t => q1c (bif decide (t ≥ (97 : Int)) then bif decide (t ≥ (48 : Int)) then some (decide (t ≤ (122 : Int)), decide (t ≤ (57 : Int))) else some (decide (t ≤ (122 : Int)), false) else bif decide (t ≥ (48 : Int)) then some (false, decide (t ≤ (57 : Int))) else some (false, false)) fun t => q1c (bif !t.1 then bif !t.2 then some true else some (a3 == (0 : Int)) else some false) fun t => bif t then some (Sum.inr false) else l0.f K k a1 a2 (IntKind.i64.wrap (a3 + (1 : Int))) else none else some (Sum.inl ())
noncomputable def l0.b (K : Nat) : Lp M 0 := q37 (X K) 2 45 0 (q0o Tryz.f184 0) ⟨[0, 8, 9, 10], (.cons (.ty .str) (.cons (.ty (.slice (.int .u8))) (.cons (.ty yI) (.ty yI)))), []⟩ ⟨[0], (.ty .str), []⟩ ⟨[2], (.ty .bool), []⟩ K [] (fun k x => l0.f K k x.1.2.1 x.1.2.2.1 x.1.2.2.2) (fun x r => (x.1.1, ())) (fun x r => (r, ())) fun k x => by
  rw [q0b, l0.f]
  try simp only [el]
  kernel_rfl
noncomputable def f (K : Nat) (a0 : ByteArray) : Option (Bool) := bif a0.size.ble (1000000 : Nat) then (l0.f K K (bytesOf a0) (↑(bytesOf a0).length : Int) (0 : Int)).bind fun t => Sum.elim (fun t => q1c (bif !a0.toList == (ByteArray.mk #[]).toList then some (decide ((↑a0.size : Int) ≤ (12 : Int))) else some false) fun t => some t) (fun t => some t) t else none
noncomputable def e (K : Nat) : En M := fnE (X K) 184 Tryz.func184 ⟨(.ty .str), [], (.ty .bool), []⟩ [l0.b K] (fun x => f K x.1) (fun x r => (r, ())) fun x => by
  rw [q0b, f]
  try simp only [el]
  kernel_rfl
end q6p
namespace q2k
noncomputable def X (K : Nat) : Fx M 0 := { hmx := mxd, nt := 12, cs := [], cp := [(1, [.bool], [4])] }
noncomputable def f (K : Nat) (a0 : Int) (a1 : Int) : Option (Bool) := q1c (bif decide (a0 ≥ (0 : Int)) then some (decide (a0 < a1)) else some false) fun t => some t
noncomputable def e (K : Nat) : En M := fnE (X K) 186 Tryz.func186 ⟨(.cons (.ty yI) (.ty yI)), [], (.ty .bool), []⟩ [] (fun x => f K x.1.1 x.1.2) (fun x r => (r, ())) fun x => by
  rw [q0b, f]
  try simp only [el]
  kernel_rfl
end q2k
namespace z49
noncomputable def f (K : Nat) (a1 : List q0t) (a2 : List q0h) (a3 : Int) : Option (ByteArray) := (q2k.f K a3 (↑a1.length : Int)).bind fun t => bif t then bif decide ((0 : Int) ≤ a3) && true then a1[a3.toNat]?.bind fun t => some t.1 else none else (q2k.f K (IntKind.i64.wrap (a3 - (↑a1.length : Int))) (↑a2.length : Int)).bind fun t => bif t then bif decide ((0 : Int) ≤ IntKind.i64.wrap (a3 - (↑a1.length : Int))) && true then a2[(IntKind.i64.wrap (a3 - (↑a1.length : Int))).toNat]?.bind fun t => some t.1 else none else some (ByteArray.mk #[])
noncomputable def e (K : Nat) : En M := fnE (m := 0) { hmx := mxd, nt := 35, cs := [q2k.e K] } 212 Tryz.func212 ⟨sh14, [], (.ty .str), []⟩ [] (fun x => f K x.1.1.2.1 x.1.1.2.2 x.1.2) (fun x r => (r, ())) fun x => by
  rw [q0b, f]
  try simp only [el]
  kernel_rfl
end z49
namespace q8z
noncomputable def X (K : Nat) : Fx M 0 := { hmx := mxd, nt := 23, cs := [z49.e K] }
noncomputable def l0.f (K : Nat) : Nat → ByteArray → Int → Int → List q0t → List q0h → Option ((Unit) ⊕ (Int))
  | 0, _, _, _, _, _ => none
  | k + 1, a0, a1, a2, a4, a5 => bif decide (a2 < a1) then (z49.f K a4 a5 a2).bind fun t => bif t.toList == a0.toList then some (Sum.inr a2) else l0.f K k a0 a1 (IntKind.i64.wrap (a2 + (1 : Int))) a4 a5 else some (Sum.inl ())
noncomputable def l0.b (K : Nat) : Lp M 0 := q37 (X K) 2 23 0 (q0o Tryz.f185 0) ⟨[1, 2, 12, 13], (.cons (.ty .str) (.cons (.ptr 0 0) (.cons (.ty yI) (.ty yI)))), [hh62]⟩ ss13 ⟨[4], (.ty yI), []⟩ K [] (fun k x => l0.f K k x.1.1 x.1.2.2.1 x.1.2.2.2 x.2.1.2.1 x.2.1.2.2) (fun x r => ((), ())) (fun x r => (r, ())) fun k x => by
  rw [q0b, l0.f]
  try simp only [el]
  kernel_rfl
noncomputable def f (K : Nat) (a1 : List q0t) (a2 : List q0h) (a3 : ByteArray) : Option (Int) := (l0.f K K a3 (IntKind.i64.wrap ((↑a1.length : Int) + (↑a2.length : Int))) (0 : Int) a1 a2).bind fun t => Sum.elim (fun t => some (-1 : Int)) (fun t => some t) t
noncomputable def e (K : Nat) : En M := fnE (X K) 185 Tryz.func185 ⟨sh15, [], (.ty yI), []⟩ [l0.b K] (fun x => f K x.1.1.2.1 x.1.1.2.2 x.1.2) (fun x r => (r, ())) fun x => by
  rw [q0b, f]
  try simp only [el]
  kernel_rfl
end q8z
namespace q7m
noncomputable def X (K : Nat) : Fx M 0 := { hmx := mxd, nt := 51, cs := [q6p.e K, q8z.e K, q2k.e K], cp := [(8, [.bool], [28]), (10, [.bool], [40])] }
noncomputable def f (K : Nat) (a1 : List q0t) (a2 : List q0h) (a3 : Int) : Option (Int) := bif decide ((0 : Int) ≤ a3) && true then a1[a3.toNat]?.bind fun t => (q6p.f K t.1).bind fun t_1 => bif !t_1 then some (6 : Int) else (q8z.f K a1 a2 t.1).bind fun t_2 => bif decide (t_2 < a3) then some (7 : Int) else (q2k.f K t.2.1 (5 : Int)).bind fun t_3 => bif !t_3 then some (10 : Int) else q1c (bif decide (t.2.2.1 < if (1 : Int) > t.2.1 then (1 : Int) else t.2.1) then some true else some (decide (t.2.2.1 > (8 : Int)))) fun t_4 => bif t_4 then some (9 : Int) else q1c (bif decide ((↑(List.length t.2.2.2) : Int) < (1 : Int)) then some true else some (decide ((↑(List.length t.2.2.2) : Int) > (12 : Int)))) fun t => bif t then some (11 : Int) else some (0 : Int) else none
noncomputable def e (K : Nat) : En M := fnE (X K) 182 Tryz.func182 ⟨sh14, [], (.ty yI), []⟩ [] (fun x => f K x.1.1.2.1 x.1.1.2.2 x.1.2) (fun x r => (r, ())) fun x => by
  rw [q0b, f]
  try simp only [el]
  kernel_rfl
end q7m
namespace q4r
noncomputable def f (K : Nat) (a0 : Int) : Option (Bool × Bool × Bool × Bool × Bool) := bif a0 == (4 : Int) then some (true, true, true, false, true) else bif a0 == (5 : Int) then some (true, true, true, false, true) else bif a0 == (6 : Int) then some (true, true, true, false, true) else bif a0 == (7 : Int) then some (true, true, true, false, true) else bif a0 == (8 : Int) then some (true, true, true, false, true) else bif a0 == (9 : Int) then some (true, true, true, false, true) else bif a0 == (10 : Int) then some (true, true, true, false, true) else bif a0 == (11 : Int) then some (true, true, true, false, true) else bif a0 == (12 : Int) then some (true, true, true, false, true) else bif a0 == (2 : Int) then some (true, true, false, false, true) else bif a0 == (3 : Int) then some (true, true, false, false, true) else bif a0 == (1 : Int) then some (true, false, false, false, true) else bif a0 == (15 : Int) then some (true, false, false, false, true) else bif a0 == (13 : Int) then some (true, false, false, true, true) else bif a0 == (17 : Int) then some (true, false, false, true, true) else bif a0 == (14 : Int) then some (false, true, false, true, true) else bif a0 == (16 : Int) then some (false, true, false, false, true) else some (false, false, false, false, false)
noncomputable def e (K : Nat) : En M := fnE (m := 0) { hmx := mxd, nt := 39, cs := [] } 190 Tryz.func190 ⟨sh58, [], (.cons (.agg (.cons (.ty .bool) (.cons (.ty .bool) (.cons (.ty .bool) (.ty .bool))))) (.ty .bool)), []⟩ [] (fun x => f K x.1.1) (fun x r => (((r.1, r.2.1, r.2.2.1, r.2.2.2.1), r.2.2.2.2), ())) fun x => by
  rw [q0b, f]
  try simp only [el]
  kernel_rfl
end q4r
namespace q8q
noncomputable def X (K : Nat) : Fx M 0 := { hmx := mxd, nt := 59, cs := [], cp := [(1, [.bool], [4])] }
noncomputable def f (K : Nat) (a0 : Int) (a1 : Int) (a2 : Int) (a3 : Int) (a4 : Int) (a5 : List Int) (a6 : Bool) (a7 : Bool) (a8 : Bool) (a9 : Bool) : Option (Bool) := q1c (bif !a6 then bif a1 != (0 : Int) then some true else bif !a7 then bif a2 != (0 : Int) then some true else bif !a8 then bif !a9 then bif a3 != (0 : Int) then some true else bif a0 != (1 : Int) then bif a4 != (0 : Int) then some true else bif a0 != (17 : Int) then some (decide ((↑a5.length : Int) > (0 : Int))) else some false else bif a0 != (17 : Int) then some (decide ((↑a5.length : Int) > (0 : Int))) else some false else bif a0 != (1 : Int) then bif a4 != (0 : Int) then some true else bif a0 != (17 : Int) then some (decide ((↑a5.length : Int) > (0 : Int))) else some false else bif a0 != (17 : Int) then some (decide ((↑a5.length : Int) > (0 : Int))) else some false else bif a0 != (1 : Int) then bif a4 != (0 : Int) then some true else bif a0 != (17 : Int) then some (decide ((↑a5.length : Int) > (0 : Int))) else some false else bif a0 != (17 : Int) then some (decide ((↑a5.length : Int) > (0 : Int))) else some false else bif !a8 then bif !a9 then bif a3 != (0 : Int) then some true else bif a0 != (1 : Int) then bif a4 != (0 : Int) then some true else bif a0 != (17 : Int) then some (decide ((↑a5.length : Int) > (0 : Int))) else some false else bif a0 != (17 : Int) then some (decide ((↑a5.length : Int) > (0 : Int))) else some false else bif a0 != (1 : Int) then bif a4 != (0 : Int) then some true else bif a0 != (17 : Int) then some (decide ((↑a5.length : Int) > (0 : Int))) else some false else bif a0 != (17 : Int) then some (decide ((↑a5.length : Int) > (0 : Int))) else some false else bif a0 != (1 : Int) then bif a4 != (0 : Int) then some true else bif a0 != (17 : Int) then some (decide ((↑a5.length : Int) > (0 : Int))) else some false else bif a0 != (17 : Int) then some (decide ((↑a5.length : Int) > (0 : Int))) else some false else bif !a7 then bif a2 != (0 : Int) then some true else bif !a8 then bif !a9 then bif a3 != (0 : Int) then some true else bif a0 != (1 : Int) then bif a4 != (0 : Int) then some true else bif a0 != (17 : Int) then some (decide ((↑a5.length : Int) > (0 : Int))) else some false else bif a0 != (17 : Int) then some (decide ((↑a5.length : Int) > (0 : Int))) else some false else bif a0 != (1 : Int) then bif a4 != (0 : Int) then some true else bif a0 != (17 : Int) then some (decide ((↑a5.length : Int) > (0 : Int))) else some false else bif a0 != (17 : Int) then some (decide ((↑a5.length : Int) > (0 : Int))) else some false else bif a0 != (1 : Int) then bif a4 != (0 : Int) then some true else bif a0 != (17 : Int) then some (decide ((↑a5.length : Int) > (0 : Int))) else some false else bif a0 != (17 : Int) then some (decide ((↑a5.length : Int) > (0 : Int))) else some false else bif !a8 then bif !a9 then bif a3 != (0 : Int) then some true else bif a0 != (1 : Int) then bif a4 != (0 : Int) then some true else bif a0 != (17 : Int) then some (decide ((↑a5.length : Int) > (0 : Int))) else some false else bif a0 != (17 : Int) then some (decide ((↑a5.length : Int) > (0 : Int))) else some false else bif a0 != (1 : Int) then bif a4 != (0 : Int) then some true else bif a0 != (17 : Int) then some (decide ((↑a5.length : Int) > (0 : Int))) else some false else bif a0 != (17 : Int) then some (decide ((↑a5.length : Int) > (0 : Int))) else some false else bif a0 != (1 : Int) then bif a4 != (0 : Int) then some true else bif a0 != (17 : Int) then some (decide ((↑a5.length : Int) > (0 : Int))) else some false else bif a0 != (17 : Int) then some (decide ((↑a5.length : Int) > (0 : Int))) else some false) fun t => some t
noncomputable def e (K : Nat) : En M := fnE (X K) 221 Tryz.func221 ⟨(.cons (.agg (.cons (.ty yI) (.cons (.ty yI) (.cons (.ty yI) (.cons (.ty yI) (.cons (.ty yI) (.ty (.slice yI)))))))) (.agg (.cons (.ty .bool) (.cons (.ty .bool) (.cons (.ty .bool) (.ty .bool)))))), [], (.ty .bool), []⟩ [] (fun (x : (((Int × (Int × (Int × (Int × (Int × (List Int)))))) × (Bool × (Bool × (Bool × Bool)))) × Unit)) => f K x.1.1.1 x.1.1.2.1 x.1.1.2.2.1 x.1.1.2.2.2.1 x.1.1.2.2.2.2.1 x.1.1.2.2.2.2.2 x.1.2.1 x.1.2.2.1 x.1.2.2.2.1 x.1.2.2.2.2) (fun x r => (r, ())) fun (x : (((Int × (Int × (Int × (Int × (Int × (List Int)))))) × (Bool × (Bool × (Bool × Bool)))) × Unit)) => by
  refine Eq.trans ?_ q0b.symm
  rw [f]
  try simp only [el]
  kernel_rfl
end q8q
namespace z07
noncomputable def X (K : Nat) : Fx M 0 := { hmx := mxd, nt := 39, cs := [q2k.e K], cp := [(4, [.bool], [23])] }
noncomputable def f (K : Nat) (a1 : List q0t) (a2 : List q0h) (a3 : Int) : Option (Int) := (q2k.f K a3 (↑a1.length : Int)).bind fun t => bif t then bif decide ((0 : Int) ≤ a3) && true then a1[a3.toNat]?.bind fun t => some t.2.1 else none else q1c (bif decide (a3 ≥ (0 : Int)) then (q2k.f K (IntKind.i64.wrap (a3 - (↑a1.length : Int))) (↑a2.length : Int)).bind fun t => some t else some false) fun t => bif t then bif decide ((0 : Int) ≤ IntKind.i64.wrap (a3 - (↑a1.length : Int))) && true then a2[(IntKind.i64.wrap (a3 - (↑a1.length : Int))).toNat]?.bind fun t => some t.2 else none else some (-1 : Int)
noncomputable def e (K : Nat) : En M := fnE (X K) 222 Tryz.func222 ⟨sh14, [], (.ty yI), []⟩ [] (fun x => f K x.1.1.2.1 x.1.1.2.2 x.1.2) (fun x r => (r, ())) fun x => by
  rw [q0b, f]
  try simp only [el]
  kernel_rfl
end z07
namespace q67
noncomputable def f (K : Nat) (a0 : Int) (a3 : Int) : Option (Bool) := (q2k.f K a0 a3).bind fun t => some !t
noncomputable def e (K : Nat) : En M := fnE (m := 1) { hmx := mxd, nt := 9, cs := [q2k.e K] } 224 Tryz.func224 ⟨(.cons (.ty yI) (.ptr 0 0)), [hh63], (.ty .bool), [hh63]⟩ [] (fun x => f K x.1.1 x.2.1.2.2.1) (fun x r => (r, x.2)) fun x => by
  rw [q0b, f]
  try simp only [el]
  kernel_rfl
end q67
namespace q2n
noncomputable def X (K : Nat) : Fx M 1 := { hmx := mxd, nt := 19, cs := [q67.e K] }
noncomputable def l0.f (K : Nat) : Nat → List Int → Int → Int → Int → Option ((Unit) ⊕ (Int))
  | 0, _, _, _, _ => none
  | k + 1, a0, a1, a2, a5 => bif decide (a2 < a1) then bif decide ((0 : Int) ≤ a2) && true then a0[a2.toNat]?.bind fun t => (q67.f K t a5).bind fun t => bif t then some (Sum.inr a2) else l0.f K k a0 a1 (IntKind.i64.wrap (a2 + (1 : Int))) a5 else none else some (Sum.inl ())
noncomputable def l0.b (K : Nat) : Lp M 1 := q37 (X K) 2 19 0 (q0o Tryz.f228 0) ⟨[0, 1, 7, 8], (.cons (.ty (.slice yI)) (.cons (.fn 224 .unit (.ptr 0 0)) (.cons (.ty yI) (.ty yI)))), [hh63]⟩ ⟨[], .unit, [hh63]⟩ ⟨[4], (.ty yI), [hh63]⟩ K [] (fun k x => l0.f K k x.1.1 x.1.2.2.1 x.1.2.2.2 x.2.1.2.2.1) (fun x r => ((), x.2)) (fun x r => (r, x.2)) fun k x => by
  rw [q0b, l0.f]
  try simp only [el]
  kernel_rfl
noncomputable def f (K : Nat) (a0 : List Int) (a3 : Int) : Option (Int) := (l0.f K K a0 (↑a0.length : Int) (0 : Int) a3).bind fun t => Sum.elim (fun t => some (-1 : Int)) (fun t => some t) t
noncomputable def e (K : Nat) : En M := fnE (X K) 228 Tryz.func228 ⟨(.cons (.ty (.slice yI)) (.fn 224 .unit (.ptr 0 0))), [hh63], (.ty yI), [hh63]⟩ [l0.b K] (fun x => f K x.1.1 x.2.1.2.2.1) (fun x r => (r, x.2)) fun x => by
  rw [q0b, f]
  try simp only [el]
  kernel_rfl
end q2n
namespace q3m
noncomputable def f (K : Nat) (a0 : List Int) (a3 : Int) : Option (Bool) := (q2n.f K a0 a3).bind fun t => some (decide (t ≥ (0 : Int)))
noncomputable def e (K : Nat) : En M := fnE (m := 1) { hmx := mxd, nt := 9, cs := [q2n.e K] } 223 Tryz.func223 ⟨(.cons (.ty (.slice yI)) (.fn 224 .unit (.ptr 0 0))), [hh63], (.ty .bool), [hh63]⟩ [] (fun x => f K x.1.1 x.2.1.2.2.1) (fun x r => (r, x.2)) fun x => by
  rw [q0b, f]
  try simp only [el]
  kernel_rfl
end q3m
namespace q60
noncomputable def X (K : Nat) : Fx M 0 := { hmx := mxd, nt := 94, cs := [q4r.e K, q8q.e K, q2k.e K, z07.e K, q3m.e K], cp := [(6, [.bool], [21]), (7, [.bool], [21]), (8, [.bool], [21]), (10, [.bool], [52])] }
noncomputable def f (K : Nat) (a0 : List Int) (a1 : List q0t) (a2 : List q0h) (a5 : Int) (a7 : Int) (a8 : Int) (a9 : Int) (a10 : Int) (a11 : Int) (a12 : List Int) : Option (Int) := (q4r.f K a7).bind fun t => bif !t.2.2.2.2 then some (5 : Int) else (q8q.f K a7 a8 a9 a10 a11 a12 t.1 t.2.1 t.2.2.1 t.2.2.2.1).bind fun t_1 => bif t_1 then some (3 : Int) else q1c (bif t.1 then (q2k.f K a8 a5).bind fun t => some !t else some false) fun t_2 => bif t_2 then some (9 : Int) else q1c (bif t.2.1 then (q2k.f K a9 a5).bind fun t => some !t else some false) fun t_3 => bif t_3 then some (9 : Int) else q1c (bif t.2.2.1 then (q2k.f K a10 a5).bind fun t => some !t else some false) fun t => bif t then some (9 : Int) else q1c (bif a7 == (13 : Int) then (q2k.f K a10 (↑a0.length : Int)).bind fun t => some !t else bif a7 == (14 : Int) then (q2k.f K a10 (↑a0.length : Int)).bind fun t => some !t else some false) fun t => bif t then some (4 : Int) else bif a7 != (17 : Int) then some (0 : Int) else (z07.f K a1 a2 a10).bind fun t => bif t == (-1 : Int) then some (7 : Int) else (z07.f K a1 a2 a10).bind fun t => bif (↑a12.length : Int) != t then some (10 : Int) else (q3m.f K a12 a5).bind fun t => bif t then some (9 : Int) else some (0 : Int)
noncomputable def e (K : Nat) : En M := fnE (X K) 210 Tryz.func210 ⟨sh16, [], (.ty yI), []⟩ [] (fun x => f K x.1.1.1 x.1.1.2.1 x.1.1.2.2 x.1.2.1.2.2.1 x.1.2.2.1 x.1.2.2.2.1 x.1.2.2.2.2.1 x.1.2.2.2.2.2.1 x.1.2.2.2.2.2.2.1 x.1.2.2.2.2.2.2.2) (fun x r => (r, ())) fun x => by
  rw [q0b, f]
  try simp only [el]
  kernel_rfl
end q60
namespace q1z
noncomputable def X (K : Nat) : Fx M 0 := { hmx := mxd, nt := 24, cs := [] }
noncomputable def l0.f (K : Nat) : Nat → Err → List Int → Int → Option (Err)
  | 0, _, _, _ => none
  | k + 1, a0, a1, a2 => bif decide (a2 ≥ (0 : Int)) then bif decide ((0 : Int) ≤ a2) && true then a1[a2.toNat]?.bind fun t => l0.f K k (Err.at t a0) a1 (IntKind.i64.wrap (a2 - (1 : Int))) else none else some a0
noncomputable def l0.b (K : Nat) : Lp M 0 := q2d (X K) 4 24 0 (q0o Tryz.f68 0) ⟨[0, 1, 5], (.cons (.ty .err) (.cons (.ty (.slice yI)) (.ty yI))), []⟩ ⟨[0], (.ty .err), []⟩ K [] (fun k x => l0.f K k x.1.1 x.1.2.1 x.1.2.2) (fun x r => (r, ())) fun k x => by
  rw [q0b, l0.f]
  try simp only [el]
  kernel_rfl
noncomputable def f (K : Nat) (a0 : Err) (a1 : List Int) : Option (Err) := bif bif false then !a0.isNil else a0.isNil then some Err.nil else l0.f K K a0 a1 (IntKind.i64.wrap ((↑a1.length : Int) - (1 : Int)))
noncomputable def e (K : Nat) : En M := fnE (X K) 68 Tryz.func68 ⟨(.cons (.ty .err) (.ty (.slice yI))), [], (.ty .err), []⟩ [l0.b K] (fun x => f K x.1.1 x.1.2) (fun x r => (r, ())) fun x => by
  rw [q0b, f]
  try simp only [el]
  kernel_rfl
end q1z
namespace q82
noncomputable def X (K : Nat) : Fx M 0 := { hmx := mxd, nt := 73, cs := [q2k.e K], cp := [(6, [.bool], [11]), (7, [.bool], [11]), (8, [.bool], [11]), (10, [.bool], [36]), (12, [.bool], [48]), (13, [.bool], [48])] }
noncomputable def f (K : Nat) (a2 : Int) (a3 : List q1k) (a4 : Int) (a5 : Int) (a6 : Int) (a7 : Int) : Option (Int) := bif a4 == (1 : Int) then q1c (bif a4 == (1 : Int) then some (a5 != (0 : Int)) else some false) fun t => bif t then some (3 : Int) else q1c (bif a4 == (3 : Int) then some (a6 != (0 : Int)) else some false) fun t => bif t then some (3 : Int) else q1c (bif a4 != (2 : Int) then some (a7 != (0 : Int)) else some false) fun t => bif t then some (3 : Int) else q1c (bif a4 != (1 : Int) then (q2k.f K a5 a2).bind fun t => some !t else some false) fun t => bif t then some (9 : Int) else q1c (bif a4 != (3 : Int) then (q2k.f K a6 (↑a3.length : Int)).bind fun t => some !t else some false) fun t => bif t then some (8 : Int) else q1c (bif a4 == (2 : Int) then (q2k.f K a7 (↑a3.length : Int)).bind fun t => some !t else some false) fun t => bif t then some (8 : Int) else some (0 : Int) else bif a4 == (2 : Int) then q1c (bif a4 == (1 : Int) then some (a5 != (0 : Int)) else some false) fun t => bif t then some (3 : Int) else q1c (bif a4 == (3 : Int) then some (a6 != (0 : Int)) else some false) fun t => bif t then some (3 : Int) else q1c (bif a4 != (2 : Int) then some (a7 != (0 : Int)) else some false) fun t => bif t then some (3 : Int) else q1c (bif a4 != (1 : Int) then (q2k.f K a5 a2).bind fun t => some !t else some false) fun t => bif t then some (9 : Int) else q1c (bif a4 != (3 : Int) then (q2k.f K a6 (↑a3.length : Int)).bind fun t => some !t else some false) fun t => bif t then some (8 : Int) else q1c (bif a4 == (2 : Int) then (q2k.f K a7 (↑a3.length : Int)).bind fun t => some !t else some false) fun t => bif t then some (8 : Int) else some (0 : Int) else bif a4 == (3 : Int) then q1c (bif a4 == (1 : Int) then some (a5 != (0 : Int)) else some false) fun t => bif t then some (3 : Int) else q1c (bif a4 == (3 : Int) then some (a6 != (0 : Int)) else some false) fun t => bif t then some (3 : Int) else q1c (bif a4 != (2 : Int) then some (a7 != (0 : Int)) else some false) fun t => bif t then some (3 : Int) else q1c (bif a4 != (1 : Int) then (q2k.f K a5 a2).bind fun t => some !t else some false) fun t => bif t then some (9 : Int) else q1c (bif a4 != (3 : Int) then (q2k.f K a6 (↑a3.length : Int)).bind fun t => some !t else some false) fun t => bif t then some (8 : Int) else q1c (bif a4 == (2 : Int) then (q2k.f K a7 (↑a3.length : Int)).bind fun t => some !t else some false) fun t => bif t then some (8 : Int) else some (0 : Int) else some (5 : Int)
noncomputable def e (K : Nat) : En M := fnE (X K) 211 Tryz.func211 ⟨sh19, [], (.ty yI), []⟩ [] (fun x => f K x.1.1.2.2.1 x.1.1.2.2.2 x.1.2.1 x.1.2.2.1 x.1.2.2.2.1 x.1.2.2.2.2) (fun x r => (r, ())) fun x => by
  rw [q0b, f]
  try simp only [el]
  kernel_rfl
end q82
namespace q36
noncomputable def X (K : Nat) : Fx M 0 := { hmx := mxd, nt := 49, cs := [q60.e K, q1z.e K, q82.e K] }
noncomputable def l0.f (K : Nat) : Nat → List q32 → Int → Int → List Int → List q0t → List q0h → Int → Option ((Unit) ⊕ (Err))
  | 0, _, _, _, _, _, _, _ => none
  | k + 1, a0, a1, a2, a3, a4, a5, a8 => bif decide (a2 < a1) then bif decide ((0 : Int) ≤ a2) && true then a0[a2.toNat]?.bind fun t => (q60.f K a3 a4 a5 a8 t.1 t.2.1 t.2.2.1 t.2.2.2.1 t.2.2.2.2.1 t.2.2.2.2.2).bind fun t => bif t != (0 : Int) then (q1z.f K (Err.no t) [a2]).bind fun t => some (Sum.inr t) else l0.f K k a0 a1 (IntKind.i64.wrap (a2 + (1 : Int))) a3 a4 a5 a8 else none else some (Sum.inl ())
noncomputable def l0.b (K : Nat) : Lp M 0 := q37 (X K) 4 49 0 (q0o Tryz.f183 0) ⟨[3, 4, 5, 17, 18, 19], (.cons (.ptr 0 0) (.cons (.ptr 1 0) (.cons (.ptr 2 0) (.cons (.ty (.slice q69)) (.cons (.ty yI) (.ty yI)))))), [hh62, hh63, hh5c]⟩ ⟨[4, 5], sh11, [hh63, hh5c]⟩ ss64 K [] (fun k x => l0.f K k x.1.2.2.2.1 x.1.2.2.2.2.1 x.1.2.2.2.2.2 x.2.1.1 x.2.1.2.1 x.2.1.2.2 x.2.2.1.2.2.1) (fun x r => (((), ()), x.2.2)) (fun x r => (r, ())) fun k x => by
  rw [q0b, l0.f]
  try simp only [el]
  kernel_rfl
noncomputable def f (K : Nat) (a0 : List Int) (a1 : List q0t) (a2 : List q0h) (a5 : Int) (a6 : List q1k) (a7 : List q32) (a8 : Int) (a9 : Int) (a10 : Int) (a11 : Int) : Option (Err) := bif decide ((↑a7.length : Int) > (12 : Int)) then some (Err.no (11 : Int)) else (l0.f K K a7 (↑a7.length : Int) (0 : Int) a0 a1 a2 a5).bind fun t => Sum.elim (fun t => (q82.f K a5 a6 a8 a9 a10 a11).bind fun t => bif t != (0 : Int) then q1z.f K (Err.no t) [(↑a7.length : Int)] else some Err.nil) (fun t => some t) t
noncomputable def e (K : Nat) : En M := fnE (X K) 183 Tryz.func183 ⟨(.cons (.agg (.cons (.ty (.slice yI)) (.cons (.ty (.slice q30)) (.ty (.slice q2f))))) (.cons (.agg (.cons (.ty .str) (.cons (.ty yI) (.cons (.ty yI) (.ty (.slice q3f)))))) (.agg (.cons (.ty (.slice q69)) (.cons (.ty yI) (.cons (.ty yI) (.cons (.ty yI) (.ty yI)))))))), [], (.ty .err), []⟩ [l0.b K] (fun x => f K x.1.1.1 x.1.1.2.1 x.1.1.2.2 x.1.2.1.2.2.1 x.1.2.1.2.2.2 x.1.2.2.1 x.1.2.2.2.1 x.1.2.2.2.2.1 x.1.2.2.2.2.2.1 x.1.2.2.2.2.2.2) (fun x r => (r, ())) fun x => by
  rw [q0b, f]
  try simp only [el]
  kernel_rfl
end q36
namespace q3d
noncomputable def X (K : Nat) : Fx M 0 := { hmx := mxd, nt := 43, cs := [q7m.e K, q36.e K, q1z.e K] }
noncomputable def l0.f (K : Nat) : Nat → Int → List q1k → Int → Int → List Int → List q0t → List q0h → Option ((Unit) ⊕ (Err))
  | 0, _, _, _, _, _, _, _ => none
  | k + 1, a0, a1, a2, a3, a4, a5, a6 => bif decide (a3 < a2) then bif decide ((0 : Int) ≤ a3) && true then a1[a3.toNat]?.bind fun t => bif decide ((0 : Int) ≤ a0) && true then a5[a0.toNat]?.bind fun t_1 => (q36.f K a4 a5 a6 t_1.2.2.1 t_1.2.2.2 t.1 t.2.1 t.2.2.1 t.2.2.2.1 t.2.2.2.2).bind fun t => bif bif true then !t.isNil else t.isNil then (q1z.f K t [a3]).bind fun t => some (Sum.inr t) else l0.f K k a0 a1 a2 (IntKind.i64.wrap (a3 + (1 : Int))) a4 a5 a6 else none else none else some (Sum.inl ())
noncomputable def l0.b (K : Nat) : Lp M 0 := q37 (X K) 5 43 0 (q0o Tryz.f130 0) ⟨[1, 2, 21, 22, 23], (.cons (.ty yI) (.cons (.ptr 0 0) (.cons (.ty (.slice q3f)) (.cons (.ty yI) (.ty yI))))), [hh62]⟩ ss13 ⟨[4], (.ty .err), []⟩ K [] (fun k x => l0.f K k x.1.1 x.1.2.2.1 x.1.2.2.2.1 x.1.2.2.2.2 x.2.1.1 x.2.1.2.1 x.2.1.2.2) (fun x r => ((), ())) (fun x r => (r, ())) fun k x => by
  rw [q0b, l0.f]
  try simp only [el]
  kernel_rfl
noncomputable def f (K : Nat) (a0 : List Int) (a1 : List q0t) (a2 : List q0h) (a3 : Int) : Option (Err) := (q7m.f K a1 a2 a3).bind fun t => bif t != (0 : Int) then some (Err.no t) else bif decide ((0 : Int) ≤ a3) && true then a1[a3.toNat]?.bind fun t => (l0.f K K a3 t.2.2.2 (↑(List.length t.2.2.2) : Int) (0 : Int) a0 a1 a2).bind fun t => Sum.elim (fun t => some Err.nil) (fun t => some t) t else none
noncomputable def e (K : Nat) : En M := fnE (X K) 130 Tryz.func130 ⟨sh14, [], (.ty .err), []⟩ [l0.b K] (fun x => f K x.1.1.1 x.1.1.2.1 x.1.1.2.2 x.1.2) (fun x r => (r, ())) fun x => by
  rw [q0b, f]
  try simp only [el]
  kernel_rfl
end q3d
namespace q47
noncomputable def X (K : Nat) : Fx M 0 := { hmx := mxd, nt := 45, cs := [q6p.e K, q8z.e K, q2k.e K], cp := [(4, [.bool], [16])] }
noncomputable def f (K : Nat) (a1 : List q0t) (a2 : List q0h) (a3 : Int) : Option (Int) := bif decide ((0 : Int) ≤ a3) && true then a2[a3.toNat]?.bind fun t => (q6p.f K t.1).bind fun t_1 => bif !t_1 then some (6 : Int) else q1c (bif decide (a3 > (0 : Int)) then bif decide ((0 : Int) ≤ IntKind.i64.wrap (a3 - (1 : Int))) && true then a2[(IntKind.i64.wrap (a3 - (1 : Int))).toNat]?.bind fun t_2 => some (Op.bytesLess (ByteArray.toList t.1) (ByteArray.toList t_2.1) || ByteArray.toList t.1 == ByteArray.toList t_2.1) else none else some false) fun t_2 => bif t_2 then some (3 : Int) else (q8z.f K a1 a2 t.1).bind fun t_3 => bif decide (t_3 < (↑a1.length : Int)) then some (7 : Int) else (q2k.f K t.2 (5 : Int)).bind fun t => bif !t then some (10 : Int) else some (0 : Int) else none
noncomputable def e (K : Nat) : En M := fnE (X K) 131 Tryz.func131 ⟨sh14, [], (.ty yI), []⟩ [] (fun x => f K x.1.1.2.1 x.1.1.2.2 x.1.2) (fun x r => (r, ())) fun x => by
  rw [q0b, f]
  try simp only [el]
  kernel_rfl
end q47
namespace q4o
noncomputable def X (K : Nat) : Fx M 0 := { hmx := mxd, nt := 59, cs := [q3d.e K, q1z.e K, q47.e K], cp := [(1, [.bool], [20])] }
noncomputable def l1.f (K : Nat) : Nat → Int → Int → List q0t → List q0h → Option ((Unit) ⊕ (Err))
  | 0, _, _, _, _ => none
  | k + 1, a0, a1, a3, a4 => bif decide (a1 < a0) then (q47.f K a3 a4 a1).bind fun t => bif t != (0 : Int) then (q1z.f K (Err.no t) [IntKind.i64.wrap ((↑a3.length : Int) + a1)]).bind fun t => some (Sum.inr t) else l1.f K k a0 (IntKind.i64.wrap (a1 + (1 : Int))) a3 a4 else some (Sum.inl ())
noncomputable def l1.b (K : Nat) : Lp M 0 := q37 (X K) 11 59 2 (q0o Tryz.f76 1) ⟨[1, 40, 41], sh17, [hh62]⟩ ss13 ⟨[2], (.ty .err), []⟩ K [] (fun k x => l1.f K k x.1.2.1 x.1.2.2 x.2.1.2.1 x.2.1.2.2) (fun x r => ((), ())) (fun x r => (r, ())) fun k x => by
  rw [q0b, l1.f]
  try simp only [el]
  kernel_rfl
noncomputable def l0.f (K : Nat) : Nat → Int → Int → List Int → List q0t → List q0h → Option ((Unit) ⊕ (Err))
  | 0, _, _, _, _, _ => none
  | k + 1, a0, a1, a2, a3, a4 => bif decide (a1 < a0) then (q3d.f K a2 a3 a4 a1).bind fun t => bif bif true then !t.isNil else t.isNil then (q1z.f K t [a1]).bind fun t => some (Sum.inr t) else l0.f K k a0 (IntKind.i64.wrap (a1 + (1 : Int))) a2 a3 a4 else some (Sum.inl ())
noncomputable def l0.b (K : Nat) : Lp M 0 := q37 (X K) 4 59 0 (q0o Tryz.f76 0) ⟨[1, 24, 25], sh17, [hh62]⟩ ⟨[1], (.ptr 0 0), [hh62]⟩ ⟨[2], (.ty .err), []⟩ K [] (fun k x => l0.f K k x.1.2.1 x.1.2.2 x.2.1.1 x.2.1.2.1 x.2.1.2.2) (fun x r => ((), x.2)) (fun x r => (r, ())) fun k x => by
  rw [q0b, l0.f]
  try simp only [el]
  kernel_rfl
noncomputable def f (K : Nat) (a0 : List Int) (a1 : List q0t) (a2 : List q0h) : Option (Err) := q1c (bif decide ((↑a0.length : Int) > (16 : Int)) then some true else some (decide (IntKind.i64.wrap ((↑a1.length : Int) + (↑a2.length : Int)) > (24 : Int)))) fun t => bif t then some (Err.no (11 : Int)) else (l0.f K K (↑a1.length : Int) (0 : Int) a0 a1 a2).bind fun t => Sum.elim (fun t => (l1.f K K (↑a2.length : Int) (0 : Int) a1 a2).bind fun t => Sum.elim (fun t => some Err.nil) (fun t => some t) t) (fun t => some t) t
noncomputable def e (K : Nat) : En M := fnE (X K) 76 Tryz.func76 ⟨sh0, [], (.ty .err), []⟩ [l0.b K, l1.b K] (fun x => f K x.1.1 x.1.2.1 x.1.2.2) (fun x r => (r, ())) fun x => by
  rw [q0b, f]
  try simp only [el]
  kernel_rfl
end q4o
namespace q5w
noncomputable def f (K : Nat) : Option (List Int) := some []
noncomputable def e (K : Nat) : En M := fnE (m := 0) { hmx := mxd, nt := 3, cs := [] } 33 Tryz.func33 ⟨.unit, [], (.ptr 0 0), hs65⟩ [] (fun x => f K) (fun x r => ((), (), r, ())) fun x => by
  rw [q0b, f]
  try simp only [el]
  kernel_rfl
end q5w
namespace q3l
noncomputable def f (K : Nat) (a0 : List Int) (a1 : List Int) : Option (List Int) := bif (a1.length + a0.length).ble (1000000 : Nat) then some (a1 ++ a0) else none
noncomputable def e (K : Nat) : En M := fnE (m := 2) { hmx := mxd, nt := 15, cs := [] } 34 Tryz.func34 ⟨(.cons (.ptr 0 0) (.ty (.slice (.int .u8)))), hs65, .unit, hs66⟩ [] (fun x => f K x.1.2 x.2.2.1) (fun x r => ((), (), (), r, ())) fun x => by
  rw [q0b, f]
  try simp only [el]
  kernel_rfl
end q3l
namespace q0v
noncomputable def f (K : Nat) (a0 : Int) (a1 : List Int) : Option (List Int) := bif (a1.length + [a0].length).ble (1000000 : Nat) then some (a1 ++ [a0]) else none
noncomputable def e (K : Nat) : En M := fnE (m := 2) { hmx := mxd, nt := 16, cs := [] } 36 Tryz.func36 ⟨(.cons (.ptr 0 0) (.ty (.int .u8))), hs65, .unit, hs66⟩ [] (fun x => f K x.1.2 x.2.2.1) (fun x r => ((), (), (), r, ())) fun x => by
  rw [q0b, f]
  try simp only [el]
  kernel_rfl
end q0v
namespace q0i
noncomputable def X (K : Nat) : Fx M 2 := { hmx := mxd, nt := 18, cs := [q0v.e K] }
noncomputable def l0.f (K : Nat) : Nat → Int → List Int → Option (Int × List Int)
  | 0, _, _ => none
  | k + 1, a0, a1 => bif decide (a0 > (127 : Int)) then (q0v.f K (IntKind.u8.wrap (↑(BitVec.ofInt (8 : Nat) (IntKind.u8.wrap (IntKind.u64.wrap (↑(BitVec.ofInt (64 : Nat) a0 &&& BitVec.ofInt (64 : Nat) (127 : Int)).toNat : Int))) ||| BitVec.ofInt (8 : Nat) (128 : Int)).toNat : Int)) a1).bind fun t => l0.f K k (a0.fdiv ((2 : Int) ^ (7 : Nat))) t else some (a0, a1)
noncomputable def l0.b (K : Nat) : Lp M 2 := q2d (X K) 0 18 0 (q0o Tryz.f77 0) ⟨[0, 1], sh67, hs66⟩ ⟨[0, 1], sh67, hs66⟩ K [] (fun k x => l0.f K k x.1.2 x.2.2.2.1) (fun x r => (((), r.1), (), (), r.2, ())) fun k x => by
  rw [q0b, l0.f]
  try simp only [el]
  kernel_rfl
noncomputable def f (K : Nat) (a0 : Int) (a1 : List Int) : Option (List Int) := (l0.f K K a0 a1).bind fun t => q0v.f K (IntKind.u8.wrap t.1) t.2
noncomputable def e (K : Nat) : En M := fnE (X K) 77 Tryz.func77 ⟨sh67, hs65, .unit, hs66⟩ [l0.b K] (fun x => f K x.1.2 x.2.2.1) (fun x r => ((), (), (), r, ())) fun x => by
  rw [q0b, f]
  try simp only [el]
  kernel_rfl
end q0i
namespace q19
noncomputable def f (K : Nat) (a0 : Int) (a1 : List Int) : Option (List Int) := q0i.f K (IntKind.u64.wrap (↑(BitVec.ofInt (64 : Nat) (IntKind.u64.wrap (IntKind.u64.wrap a0 * (2 : Int) ^ (1 : Nat))) ^^^ BitVec.ofInt (64 : Nat) (IntKind.u64.wrap (a0.fdiv ((2 : Int) ^ (63 : Nat))))).toNat : Int)) a1
noncomputable def e (K : Nat) : En M := fnE (m := 2) { hmx := mxd, nt := 13, cs := [q0i.e K] } 78 Tryz.func78 ⟨sh1b, hs65, .unit, hs66⟩ [] (fun x => f K x.1.2 x.2.2.1) (fun x r => ((), (), (), r, ())) fun x => by
  rw [q0b, f]
  try simp only [el]
  kernel_rfl
end q19
namespace q1y
noncomputable def f (K : Nat) (a0 : List Int) (a1 : List Int) : Option (List Int) := (q0i.f K (IntKind.u64.wrap (↑a0.length : Int)) a1).bind fun t => q3l.f K a0 t
noncomputable def e (K : Nat) : En M := fnE (m := 2) { hmx := mxd, nt := 12, cs := [q0i.e K, q3l.e K] } 37 Tryz.func37 ⟨(.cons (.ptr 0 0) (.ty (.slice (.int .u8)))), hs65, .unit, hs66⟩ [] (fun x => f K x.1.2 x.2.2.1) (fun x r => ((), (), (), r, ())) fun x => by
  rw [q0b, f]
  try simp only [el]
  kernel_rfl
end q1y
namespace q81
noncomputable def f (K : Nat) (a0 : Int) : Option (Bool × Bool × Bool × Int × Bool) := bif a0 == (1 : Int) then some (true, false, false, (7 : Int), true) else bif a0 == (15 : Int) then some (true, false, false, (7 : Int), true) else bif a0 == (2 : Int) then some (true, true, false, (7 : Int), true) else bif a0 == (3 : Int) then some (true, true, false, (7 : Int), true) else bif a0 == (4 : Int) then some (true, true, true, (7 : Int), true) else bif a0 == (5 : Int) then some (true, true, true, (7 : Int), true) else bif a0 == (6 : Int) then some (true, true, true, (7 : Int), true) else bif a0 == (7 : Int) then some (true, true, true, (7 : Int), true) else bif a0 == (8 : Int) then some (true, true, true, (7 : Int), true) else bif a0 == (9 : Int) then some (true, true, true, (7 : Int), true) else bif a0 == (10 : Int) then some (true, true, true, (7 : Int), true) else bif a0 == (11 : Int) then some (true, true, true, (7 : Int), true) else bif a0 == (12 : Int) then some (true, true, true, (7 : Int), true) else bif a0 == (13 : Int) then some (true, false, true, (15 : Int), true) else bif a0 == (14 : Int) then some (false, true, true, (15 : Int), true) else bif a0 == (16 : Int) then some (false, true, false, (7 : Int), true) else bif a0 == (17 : Int) then some (true, false, true, (23 : Int), true) else some (false, false, false, (0 : Int), false)
noncomputable def e (K : Nat) : En M := fnE (m := 0) { hmx := mxd, nt := 49, cs := [] } 187 Tryz.func187 ⟨(.ty yI), [], (.cons (.agg (.cons (.ty .bool) (.cons (.ty .bool) (.cons (.ty .bool) (.ty yI))))) (.ty .bool)), []⟩ [] (fun x => f K x.1) (fun x r => (((r.1, r.2.1, r.2.2.1, r.2.2.2.1), r.2.2.2.2), ())) fun x => by
  rw [q0b, f]
  try simp only [el]
  kernel_rfl
end q81
namespace q5i
noncomputable def X (K : Nat) : Fx M 2 := { hmx := mxd, nt := 68, cs := [q81.e K, q0v.e K, q0i.e K, q19.e K] }
noncomputable def l0.f (K : Nat) : Nat → List Int → Int → Int → List Int → Option (List Int)
  | 0, _, _, _, _ => none
  | k + 1, a0, a1, a2, a3 => bif decide (a2 < a1) then bif decide ((0 : Int) ≤ a2) && true then a0[a2.toNat]?.bind fun t => (q0i.f K (IntKind.u64.wrap t) a3).bind fun t => l0.f K k a0 a1 (IntKind.i64.wrap (a2 + (1 : Int))) t else none else some a3
noncomputable def l0.b (K : Nat) : Lp M 2 := q2d (X K) 15 68 1 (q0o Tryz.f132 0) ⟨[0, 57, 58, 59], (.cons (.ptr 0 0) (.cons (.ty (.slice yI)) (.cons (.ty yI) (.ty yI)))), hs66⟩ ⟨[], .unit, hs66⟩ K [] (fun k x => l0.f K k x.1.2.1 x.1.2.2.1 x.1.2.2.2 x.2.2.2.1) (fun x r => ((), (), (), r, ())) fun k x => by
  rw [q0b, l0.f]
  try simp only [el]
  kernel_rfl
noncomputable def f (K : Nat) (a0 : Int) (a1 : Int) (a2 : Int) (a3 : Int) (a4 : Int) (a5 : List Int) (a6 : List Int) : Option (List Int) := (q81.f K a0).bind fun t => (q0v.f K (IntKind.u8.wrap a0) a6).bind fun t_1 => bif t.1 then (q0i.f K (IntKind.u64.wrap a1) t_1).bind fun t_2 => bif t.2.1 then (q0i.f K (IntKind.u64.wrap a2) t_2).bind fun t_3 => bif t.2.2.1 then (q0i.f K (IntKind.u64.wrap a3) t_3).bind fun t => bif a0 == (1 : Int) then q19.f K a4 t else bif a0 == (17 : Int) then (q0i.f K (IntKind.u64.wrap (↑a5.length : Int)) t).bind fun t => l0.f K K a5 (↑a5.length : Int) (0 : Int) t else some t else bif a0 == (1 : Int) then q19.f K a4 t_3 else bif a0 == (17 : Int) then (q0i.f K (IntKind.u64.wrap (↑a5.length : Int)) t_3).bind fun t => l0.f K K a5 (↑a5.length : Int) (0 : Int) t else some t_3 else bif t.2.2.1 then (q0i.f K (IntKind.u64.wrap a3) t_2).bind fun t => bif a0 == (1 : Int) then q19.f K a4 t else bif a0 == (17 : Int) then (q0i.f K (IntKind.u64.wrap (↑a5.length : Int)) t).bind fun t => l0.f K K a5 (↑a5.length : Int) (0 : Int) t else some t else bif a0 == (1 : Int) then q19.f K a4 t_2 else bif a0 == (17 : Int) then (q0i.f K (IntKind.u64.wrap (↑a5.length : Int)) t_2).bind fun t => l0.f K K a5 (↑a5.length : Int) (0 : Int) t else some t_2 else bif t.2.1 then (q0i.f K (IntKind.u64.wrap a2) t_1).bind fun t_2 => bif t.2.2.1 then (q0i.f K (IntKind.u64.wrap a3) t_2).bind fun t => bif a0 == (1 : Int) then q19.f K a4 t else bif a0 == (17 : Int) then (q0i.f K (IntKind.u64.wrap (↑a5.length : Int)) t).bind fun t => l0.f K K a5 (↑a5.length : Int) (0 : Int) t else some t else bif a0 == (1 : Int) then q19.f K a4 t_2 else bif a0 == (17 : Int) then (q0i.f K (IntKind.u64.wrap (↑a5.length : Int)) t_2).bind fun t => l0.f K K a5 (↑a5.length : Int) (0 : Int) t else some t_2 else bif t.2.2.1 then (q0i.f K (IntKind.u64.wrap a3) t_1).bind fun t => bif a0 == (1 : Int) then q19.f K a4 t else bif a0 == (17 : Int) then (q0i.f K (IntKind.u64.wrap (↑a5.length : Int)) t).bind fun t => l0.f K K a5 (↑a5.length : Int) (0 : Int) t else some t else bif a0 == (1 : Int) then q19.f K a4 t_1 else bif a0 == (17 : Int) then (q0i.f K (IntKind.u64.wrap (↑a5.length : Int)) t_1).bind fun t => l0.f K K a5 (↑a5.length : Int) (0 : Int) t else some t_1
noncomputable def e (K : Nat) : En M := fnE (X K) 132 Tryz.func132 ⟨(.cons (.ptr 0 0) (.agg (.cons (.ty yI) (.cons (.ty yI) (.cons (.ty yI) (.cons (.ty yI) (.cons (.ty yI) (.ty (.slice yI))))))))), hs65, .unit, hs66⟩ [l0.b K] (fun x => f K x.1.2.1 x.1.2.2.1 x.1.2.2.2.1 x.1.2.2.2.2.1 x.1.2.2.2.2.2.1 x.1.2.2.2.2.2.2 x.2.2.1) (fun x r => ((), (), (), r, ())) fun x => by
  rw [q0b, f]
  try simp only [el]
  kernel_rfl
end q5i
namespace q8v
noncomputable def f (K : Nat) (a0 : Int) (a1 : Int) (a2 : Int) (a3 : Int) (a4 : List Int) : Option (List Int) := (q0v.f K (IntKind.u8.wrap a0) a4).bind fun t => bif a0 == (1 : Int) then q0i.f K (IntKind.u64.wrap a2) t else bif a0 == (2 : Int) then (q0i.f K (IntKind.u64.wrap a1) t).bind fun t => (q0i.f K (IntKind.u64.wrap a2) t).bind fun t => q0i.f K (IntKind.u64.wrap a3) t else bif a0 == (3 : Int) then q0i.f K (IntKind.u64.wrap a1) t else some t
noncomputable def e (K : Nat) : En M := fnE (m := 2) { hmx := mxd, nt := 42, cs := [q0v.e K, q0i.e K] } 133 Tryz.func133 ⟨(.cons (.ptr 0 0) (.agg (.cons (.ty yI) (.cons (.ty yI) (.cons (.ty yI) (.ty yI)))))), hs65, .unit, hs66⟩ [] (fun x => f K x.1.2.1 x.1.2.2.1 x.1.2.2.2.1 x.1.2.2.2.2 x.2.2.1) (fun x r => ((), (), (), r, ())) fun x => by
  rw [q0b, f]
  try simp only [el]
  kernel_rfl
end q8v
namespace q3y
noncomputable def X (K : Nat) : Fx M 2 := { hmx := mxd, nt := 58, cs := [q1y.e K, q0i.e K, q5i.e K, q8v.e K] }
noncomputable def l1.f (K : Nat) : Nat → List q32 → Int → Int → List Int → Option (List Int)
  | 0, _, _, _, _ => none
  | k + 1, a3, a4, a5, a11 => bif decide (a5 < a4) then bif decide ((0 : Int) ≤ a5) && true then a3[a5.toNat]?.bind fun t => (q5i.f K t.1 t.2.1 t.2.2.1 t.2.2.2.1 t.2.2.2.2.1 t.2.2.2.2.2 a11).bind fun t => l1.f K k a3 a4 (IntKind.i64.wrap (a5 + (1 : Int))) t else none else some a11
noncomputable def l1.b (K : Nat) : Lp M 2 := q2d (X K) 10 58 2 (q0o Tryz.f79 1) ⟨[0, 5, 30, 31, 32, 43, 44, 45], (.cons (.ptr 0 0) (.cons (.ptr 2 0) (.cons (.ty (.slice q3f)) (.cons (.ty yI) (.cons (.ty yI) (.cons (.ty (.slice q69)) (.cons (.ty yI) (.ty yI)))))))), [hh68, .dead, hh5c, .list 5 (.int .u8) []]⟩ ⟨[0, 5, 30, 31, 32], (.cons (.ptr 0 0) (.cons (.ptr 2 0) (.cons (.ty (.slice q3f)) (.cons (.ty yI) (.ty yI))))), [hh68, .dead, hh5c, .list 5 (.int .u8) []]⟩ K [] (fun k x => l1.f K k x.1.2.2.2.2.2.1 x.1.2.2.2.2.2.2.1 x.1.2.2.2.2.2.2.2 x.2.2.2.2.1) (fun x r => (((), (), x.1.2.2.1, x.1.2.2.2.1, x.1.2.2.2.2.1), (), (), x.2.2.2.1, r, ())) fun k x => by
  rw [q0b, l1.f]
  try simp only [el]
  kernel_rfl
noncomputable def l0.f (K : Nat) : Nat → List q1k → Int → Int → List Int → Option (List Int)
  | 0, _, _, _, _ => none
  | k + 1, a0, a1, a2, a3 => bif decide (a2 < a1) then bif decide ((0 : Int) ≤ a2) && true then a0[a2.toNat]?.bind fun t => (q0i.f K (IntKind.u64.wrap (↑(List.length t.1) : Int)) a3).bind fun t_1 => (l1.f K K t.1 (↑(List.length t.1) : Int) (0 : Int) t_1).bind fun t_2 => (q8v.f K t.2.1 t.2.2.1 t.2.2.2.1 t.2.2.2.2 t_2).bind fun t => l0.f K k a0 a1 (IntKind.i64.wrap (a2 + (1 : Int))) t else none else some a3
noncomputable def l0.b (K : Nat) : Lp M 2 := q2d (X K) 6 58 0 (q0o Tryz.f79 0) ⟨[0, 30, 31, 32], (.cons (.ptr 0 0) (.cons (.ty (.slice q3f)) (.cons (.ty yI) (.ty yI)))), hs66⟩ ⟨[], .unit, hs66⟩ K [l1.b K] (fun k x => l0.f K k x.1.2.1 x.1.2.2.1 x.1.2.2.2 x.2.2.2.1) (fun x r => ((), (), (), r, ())) fun k x => by
  rw [q0b, l0.f]
  try simp only [el]
  kernel_rfl
noncomputable def f (K : Nat) (a0 : ByteArray) (a1 : Int) (a2 : Int) (a3 : List q1k) (a4 : List Int) : Option (List Int) := bif a0.size.ble (1000000 : Nat) then (q1y.f K (bytesOf a0) a4).bind fun t => (q0i.f K (IntKind.u64.wrap a1) t).bind fun t => (q0i.f K (IntKind.u64.wrap a2) t).bind fun t => (q0i.f K (IntKind.u64.wrap (↑a3.length : Int)) t).bind fun t => l0.f K K a3 (↑a3.length : Int) (0 : Int) t else none
noncomputable def e (K : Nat) : En M := fnE (X K) 79 Tryz.func79 ⟨(.cons (.ptr 0 0) (.agg (.cons (.ty .str) (.cons (.ty yI) (.cons (.ty yI) (.ty (.slice q3f))))))), hs65, .unit, hs66⟩ [l0.b K, l1.b K] (fun x => f K x.1.2.1 x.1.2.2.1 x.1.2.2.2.1 x.1.2.2.2.2 x.2.2.1) (fun x r => ((), (), (), r, ())) fun x => by
  rw [q0b, f]
  try simp only [el]
  kernel_rfl
end q3y
noncomputable def q0p.sig : Sig := ⟨(.ty (.slice (.int .u8))), [], (.ty (.slice (.int .u8))), []⟩
noncomputable def q0p.f (K : Nat) (a0 : List Int) : Option (List Int) := bif (0 + a0.length).ble 1000000 then some a0 else none
noncomputable def q0p.F (K : Nat) : q0p.sig.In → Option (List Int) := fun x => q0p.f K x.1
noncomputable def q0p.cv : q0p.sig.In → (List Int) → q0p.sig.Ou := fun x r => (r, ())
theorem q0p.rets (K : Nat) : ∀ x y, q3r (q0p.F K) q0p.cv x = some y → Rets M 65 q0p.sig x y := fun x y h =>
  q6v (M := M) (g := q0p.sig) (T := (.int .u8)) (e := 5) (n := 8) (L := 1) (x := x.1) (args0 := x.1) (G := fun xs => bif (0 + xs.length).ble 1000000 then some (q0p.cv (xs, ()) xs) else none) (by kernel_rfl) Tryz.func65 (show Tryz.f65.body = some (.seq _ (.seq (.seq (.region _ #[⟨some 3, .move (.tmp 0), _, _, _, none⟩, ⟨some 4, .binOp .eql _ (.tmp 3) (.const (.slice none 0 0)) _, _, _, _, none⟩] false) _) _)) from rfl)
    (by kernel_rfl) rfl rfl (by kernel_rfl) (by decide) (by kernel_rfl) (by kernel_rfl) (by kernel_rfl) (by kernel_rfl) (by kernel_rfl) (by kernel_rfl) (Eq.trans (show (bif (0 + x.1.length).ble 1000000 then some (q0p.cv x x.1) else none) = (bif (0 + x.1.length).ble 1000000 then some x.1 else none).bind fun r => some (q0p.cv x r) by rw [q6z]; rfl) h) x.2
noncomputable def q0p.e (K : Nat) : En M := ⟨65, q0p.sig, _, q0p.F K, q0p.cv, by rfl, Tryz.f65, Tryz.func65, by kernel_rfl, rfl, q0p.rets K⟩
noncomputable def q0q.sig : Sig := ⟨(.own 0), [.list 5 (.int .u8) []], (.ty (.slice (.int .u8))), [.list 5 (.int .u8) []]⟩
noncomputable def q0q.f (K : Nat) (a0 : List Int) : Option (List Int) := bif (0 + a0.length).ble 1000000 then some a0 else none
noncomputable def q0q.F (K : Nat) : q0q.sig.In → Option (List Int) := fun x => q0q.f K x.2.1
noncomputable def q0q.cv : q0q.sig.In → (List Int) → q0q.sig.Ou := fun x r => (r, (x.2.1, ()))
theorem q0q.rets (K : Nat) : ∀ x y, q3r (q0q.F K) q0q.cv x = some y → Rets M 65 q0q.sig x y := fun x y h =>
  j1p (M := M) (g := q0q.sig) (T := (.int .u8)) (e := 5) (n := 8) (L := 1) (x := x.2.1) (args0 := x.1) (z := x.2) (G := fun xs => bif (0 + xs.length).ble 1000000 then some (q0q.cv ((), (xs, ())) xs) else none) (by kernel_rfl) Tryz.func65 (show Tryz.f65.body = some (.seq _ (.seq (.seq (.region _ #[⟨some 3, .move (.tmp 0), _, _, _, none⟩, ⟨some 4, .binOp .eql _ (.tmp 3) (.const (.slice none 0 0)) _, _, _, _, none⟩] false) _) _)) from rfl)
    (by kernel_rfl) rfl rfl rfl (by decide) (by decide) (by kernel_rfl) (by decide) (by kernel_rfl) (by kernel_rfl) (by kernel_rfl) (by kernel_rfl) (by kernel_rfl) (by kernel_rfl) (Eq.trans (show (bif (0 + x.2.1.length).ble 1000000 then some (q0q.cv x x.2.1) else none) = (bif (0 + x.2.1.length).ble 1000000 then some x.2.1 else none).bind fun r => some (q0q.cv x r) by rw [q6z]; rfl) h)
noncomputable def q0q.e (K : Nat) : En M := ⟨65, q0q.sig, _, q0q.F K, q0q.cv, by rfl, Tryz.f65, Tryz.func65, by kernel_rfl, rfl, q0q.rets K⟩
namespace q13
noncomputable def f (K : Nat) (a0 : List Int) : Option (List Int) := q0q.f K a0
noncomputable def e (K : Nat) : En M := fnE (m := 2) { hmx := mxd, nt := 10, cs := [q0q.e K] } 42 Tryz.func42 ⟨(.ptr 0 0), hs65, sh69, hs65⟩ [] (fun x => f K x.2.2.1) (fun x r => (r, x.2)) fun x => by
  rw [q0b, f]
  try simp only [el]
  kernel_rfl
end q13
namespace q3n
noncomputable def X (K : Nat) : Fx M 0 := { hmx := mxd, nt := 82, cs := [q4o.e K, q5w.e K, q3l.e K, q0i.e K, q19.e K, q3y.e K, q1y.e K, q13.e K] }
noncomputable def l2.f (K : Nat) : Nat → List q0h → Int → Int → List Int → Option (List Int)
  | 0, _, _, _, _ => none
  | k + 1, a0, a1, a2, a3 => bif decide (a2 < a1) then bif decide ((0 : Int) ≤ a2) && true then a0[a2.toNat]?.bind fun t => bif (ByteArray.size t.1).ble (1000000 : Nat) then (q1y.f K (bytesOf t.1) a3).bind fun t_1 => (q0i.f K (IntKind.u64.wrap t.2) t_1).bind fun t => l2.f K k a0 a1 (IntKind.i64.wrap (a2 + (1 : Int))) t else none else none else some a3
noncomputable def l2.b (K : Nat) : Lp M 0 := q2d (X K) 20 82 4 (q0o Tryz.f24 2) ⟨[5, 63, 64, 65], (.cons (.ptr 0 0) (.cons (.ty (.slice q2f)) (.cons (.ty yI) (.ty yI)))), hs65⟩ ⟨[5], (.ptr 0 0), hs65⟩ K [] (fun k x => l2.f K k x.1.2.1 x.1.2.2.1 x.1.2.2.2 x.2.2.1) (fun x r => ((), (), r, ())) fun k x => by
  rw [q0b, l2.f]
  try simp only [el]
  kernel_rfl
noncomputable def l1.f (K : Nat) : Nat → List q0t → Int → Int → List Int → Option (List Int)
  | 0, _, _, _, _ => none
  | k + 1, a0, a1, a2, a6 => bif decide (a2 < a1) then bif decide ((0 : Int) ≤ a2) && true then a0[a2.toNat]?.bind fun t => (q3y.f K t.1 t.2.1 t.2.2.1 t.2.2.2 a6).bind fun t => l1.f K k a0 a1 (IntKind.i64.wrap (a2 + (1 : Int))) t else none else some a6
noncomputable def l1.b (K : Nat) : Lp M 0 := q2d (X K) 14 82 2 (q0o Tryz.f24 1) ⟨[1, 5, 46, 47, 48], sh6b, hs6c⟩ ⟨[1, 5], sh11, hs6c⟩ K [] (fun k x => l1.f K k x.1.2.2.1 x.1.2.2.2.1 x.1.2.2.2.2 x.2.2.2.1) (fun x r => (((), ()), x.2.1, (), r, ())) fun k x => by
  rw [q0b, l1.f]
  try simp only [el]
  kernel_rfl
noncomputable def l0.f (K : Nat) : Nat → List Int → Int → Int → List Int → Option (List Int)
  | 0, _, _, _, _ => none
  | k + 1, a0, a1, a2, a6 => bif decide (a2 < a1) then bif decide ((0 : Int) ≤ a2) && true then a0[a2.toNat]?.bind fun t => (q19.f K t a6).bind fun t => l0.f K k a0 a1 (IntKind.i64.wrap (a2 + (1 : Int))) t else none else some a6
noncomputable def l0.b (K : Nat) : Lp M 0 := q2d (X K) 8 82 0 (q0o Tryz.f24 0) ⟨[1, 5, 29, 30, 31], (.cons (.ptr 0 0) (.cons (.ptr 1 0) (.cons (.ty (.slice yI)) (.cons (.ty yI) (.ty yI))))), hs6c⟩ ⟨[1, 5], sh11, hs6c⟩ K [] (fun k x => l0.f K k x.1.2.2.1 x.1.2.2.2.1 x.1.2.2.2.2 x.2.2.2.1) (fun x r => (((), ()), x.2.1, (), r, ())) fun k x => by
  rw [q0b, l0.f]
  try simp only [el]
  kernel_rfl
noncomputable def f (K : Nat) (a0 : List Int) (a1 : List q0t) (a2 : List q0h) : Option (List Int × Err) := (q4o.f K a0 a1 a2).bind fun t => bif bif true then !t.isNil else t.isNil then some ([], t) else (q5w.f K).bind fun t => (q3l.f K [(65 : Int), (86 : Int), (1 : Int)] t).bind fun t => (q0i.f K (IntKind.u64.wrap (↑a0.length : Int)) t).bind fun t => (l0.f K K a0 (↑a0.length : Int) (0 : Int) t).bind fun t => (q0i.f K (IntKind.u64.wrap (↑a1.length : Int)) t).bind fun t => (l1.f K K a1 (↑a1.length : Int) (0 : Int) t).bind fun t => (q0i.f K (IntKind.u64.wrap (↑a2.length : Int)) t).bind fun t => (l2.f K K a2 (↑a2.length : Int) (0 : Int) t).bind fun t => (q13.f K t).bind fun t => some (t, Err.nil)
noncomputable def e (K : Nat) : En M := fnE (X K) 24 Tryz.func24 ⟨sh0, [], sh6a, []⟩ [l0.b K, l1.b K, l2.b K] (fun x => f K x.1.1 x.1.2.1 x.1.2.2) (fun x r => ((r.1, r.2), ())) fun x => by
  rw [q0b, f]
  try simp only [el]
  kernel_rfl
end q3n
namespace q9w
noncomputable def f (K : Nat) (a0 : List Int) : Option (List Int × Int) := (q0p.f K a0).bind fun t => some (t, (0 : Int))
noncomputable def e (K : Nat) : En M := fnE (m := 0) { hmx := mxd, nt := 7, cs := [q0p.e K] } 17 Tryz.func17 ⟨sh69, [], (.ptr 0 0), [hh6d]⟩ [] (fun x => f K x.1) (fun x r => ((), (r.1, r.2), ())) fun x => by
  rw [q0b, f]
  try simp only [el]
  kernel_rfl
end q9w
namespace q1m
noncomputable def f (K : Nat) : Option (Unit) := some ()
noncomputable def e (K : Nat) : En M := fnE (m := 1) { hmx := mxd, nt := 9, cs := [] } 122 Tryz.func122 ⟨(.ptr 0 0), [hh6d], (.ty yI), [hh6d]⟩ [] (fun x => f K) (fun x r => (x.2.1.2, x.2)) fun x => by
  rw [q0b, f]
  try simp only [el]
  kernel_rfl
end q1m
namespace q2h
noncomputable def f (K : Nat) (a0 : Int) (a2 : Int) : Option (Err) := (q1m.f K).bind fun t => q1z.f K (Err.no a0) [a2]
noncomputable def e (K : Nat) : En M := fnE (m := 1) { hmx := mxd, nt := 11, cs := [q1m.e K, q1z.e K] } 120 Tryz.func120 ⟨sh1b, [hh6d], (.ty .err), [hh6d]⟩ [] (fun x => f K x.1.2 x.2.1.2) (fun x r => (r, x.2)) fun x => by
  rw [q0b, f]
  try simp only [el]
  kernel_rfl
end q2h
namespace q3b
noncomputable def f (K : Nat) (a0 : List Int) (a1 : Int) : Option (Int) := some (IntKind.i64.wrap ((↑a0.length : Int) - a1))
noncomputable def e (K : Nat) : En M := fnE (m := 1) { hmx := mxd, nt := 15, cs := [] } 121 Tryz.func121 ⟨(.ptr 0 0), [hh6d], (.ty yI), [hh6d]⟩ [] (fun x => f K x.2.1.1 x.2.1.2) (fun x r => (r, x.2)) fun x => by
  rw [q0b, f]
  try simp only [el]
  kernel_rfl
end q3b
namespace q2a
noncomputable def X (K : Nat) : Fx M 1 := { hmx := mxd, nt := 46, cs := [q2h.e K, q3b.e K, q0p.e K], cp := [(1, [.bool], [6])] }
noncomputable def f (K : Nat) (a0 : Int) (a1 : List Int) (a2 : Int) : Option (List Int × Err × Int) := q1c (some (decide (a0 < (0 : Int)))) fun t => bif t then (q2h.f K (1 : Int) a2).bind fun t => some ([], t, a2) else (q3b.f K a1 a2).bind fun t => bif decide (a0 > t) then (q2h.f K (2 : Int) a2).bind fun t => some ([], t, a2) else bif decide ((0 : Int) ≤ IntKind.i64.wrap (IntKind.i64.wrap (a2 + a0) - a0)) && decide (IntKind.i64.wrap (IntKind.i64.wrap (a2 + a0) - a0) ≤ IntKind.i64.wrap (a2 + a0)) && decide (IntKind.i64.wrap (a2 + a0) ≤ (↑a1.length : Int)) && true then (q0p.f K (List.drop (IntKind.i64.wrap (IntKind.i64.wrap (a2 + a0) - a0)).toNat (List.take (IntKind.i64.wrap (a2 + a0)).toNat a1))).bind fun t => some (t, Err.nil, IntKind.i64.wrap (a2 + a0)) else none
noncomputable def e (K : Nat) : En M := fnE (X K) 66 Tryz.func66 ⟨sh1b, [hh6d], sh6a, [hh6d]⟩ [] (fun x => f K x.1.2 x.2.1.1 x.2.1.2) (fun x r => ((r.1, r.2.1), (x.2.1.1, r.2.2), ())) fun x => by
  rw [q0b, f]
  try simp only [el]
  kernel_rfl
end q2a
namespace q21
noncomputable def X (K : Nat) : Fx M 1 := { hmx := mxd, nt := 69, cs := [], cp := [(8, [.bool], [42]), (12, [.bool], [54])] }
noncomputable def l0.f (K : Nat) : Nat → Int → Int → Int → List Int → Int → Option ((Unit) ⊕ (Int × Int × Int))
  | 0, _, _, _, _, _ => none
  | k + 1, a0, a1, a2, a3, a4 => bif decide (a2 < (10 : Int)) then bif IntKind.i64.wrap (a4 + a2) == (↑a3.length : Int) then some (Sum.inr ((0 : Int), (0 : Int), (2 : Int))) else bif decide ((0 : Int) ≤ IntKind.i64.wrap (a4 + a2)) && true then a3[(IntKind.i64.wrap (a4 + a2)).toNat]?.bind fun t => q1c (bif a2 == (9 : Int) then some (decide (t > (1 : Int))) else some false) fun t_1 => bif t_1 then some (Sum.inr ((0 : Int), (0 : Int), (3 : Int))) else bif decide (IntKind.i64.wrap ((7 : Int) * a2) < (0 : Int)) then none else bif IntKind.u8.wrap (↑(BitVec.ofInt (8 : Nat) t &&& BitVec.ofInt (8 : Nat) (128 : Int)).toNat : Int) != (0 : Int) then l0.f K k a0 (IntKind.u64.wrap (↑(BitVec.ofInt (64 : Nat) a1 ||| BitVec.ofInt (64 : Nat) (IntKind.u64.wrap (IntKind.u64.wrap (IntKind.u8.wrap (↑(BitVec.ofInt (8 : Nat) t &&& BitVec.ofInt (8 : Nat) (127 : Int)).toNat : Int)) * (2 : Int) ^ min (IntKind.i64.wrap ((7 : Int) * a2)).toNat (64 : Nat)))).toNat : Int)) (IntKind.i64.wrap (a2 + (1 : Int))) a3 a4 else q1c (bif t == (0 : Int) then some (decide (a2 > (0 : Int))) else some false) fun t_2 => bif t_2 then some (Sum.inr ((0 : Int), (0 : Int), (3 : Int))) else bif decide (IntKind.u64.wrap (↑(BitVec.ofInt (64 : Nat) a1 ||| BitVec.ofInt (64 : Nat) (IntKind.u64.wrap (IntKind.u64.wrap (IntKind.u8.wrap (↑(BitVec.ofInt (8 : Nat) t &&& BitVec.ofInt (8 : Nat) (127 : Int)).toNat : Int)) * (2 : Int) ^ min (IntKind.i64.wrap ((7 : Int) * a2)).toNat (64 : Nat)))).toNat : Int) > a0) then some (Sum.inr ((0 : Int), (0 : Int), (4 : Int))) else some (Sum.inr (IntKind.u64.wrap (↑(BitVec.ofInt (64 : Nat) a1 ||| BitVec.ofInt (64 : Nat) (IntKind.u64.wrap (IntKind.u64.wrap (IntKind.u8.wrap (↑(BitVec.ofInt (8 : Nat) t &&& BitVec.ofInt (8 : Nat) (127 : Int)).toNat : Int)) * (2 : Int) ^ min (IntKind.i64.wrap ((7 : Int) * a2)).toNat (64 : Nat)))).toNat : Int), IntKind.i64.wrap (a2 + (1 : Int)), (0 : Int))) else none else some (Sum.inl ())
noncomputable def l0.b (K : Nat) : Lp M 1 := q37 (X K) 3 69 0 (q0o Tryz.f124 0) ⟨[0, 1, 7, 10], (.cons (.ptr 0 0) (.cons (.ty (.int .u64)) (.cons (.ty (.int .u64)) (.ty yI)))), [hh6d]⟩ ⟨[], .unit, [hh6d]⟩ ⟨[4, 5, 6], (.cons (.ty (.int .u64)) (.cons (.ty yI) (.ty yI))), [hh6d]⟩ K [] (fun k x => l0.f K k x.1.2.1 x.1.2.2.1 x.1.2.2.2 x.2.1.1 x.2.1.2) (fun x r => ((), x.2)) (fun x r => ((r.1, r.2.1, r.2.2), x.2)) fun k x => by
  rw [q0b, l0.f]
  try simp only [el]
  kernel_rfl
noncomputable def f (K : Nat) (a0 : Int) (a1 : List Int) (a2 : Int) : Option (Int × Int × Int) := (l0.f K K a0 (0 : Int) (0 : Int) a1 a2).bind fun t => Sum.elim (fun t => some ((0 : Int), (0 : Int), (3 : Int))) (fun t => some (t.1, t.2.1, t.2.2)) t
noncomputable def e (K : Nat) : En M := fnE (X K) 124 Tryz.func124 ⟨sh67, [hh6d], (.cons (.ty (.int .u64)) (.cons (.ty yI) (.ty yI))), [hh6d]⟩ [l0.b K] (fun x => f K x.1.2 x.2.1.1 x.2.1.2) (fun x r => ((r.1, r.2.1, r.2.2), x.2)) fun x => by
  rw [q0b, f]
  try simp only [el]
  kernel_rfl
end q21
namespace q16
noncomputable def f (K : Nat) (a0 : Int) (a1 : List Int) (a2 : Int) : Option (Int × Err × Int) := (q21.f K a0 a1 a2).bind fun t => bif t.2.2 != (0 : Int) then (q2h.f K t.2.2 a2).bind fun t => some ((0 : Int), t, a2) else some (t.1, Err.nil, IntKind.i64.wrap (a2 + t.2.1))
noncomputable def e (K : Nat) : En M := fnE (m := 1) { hmx := mxd, nt := 34, cs := [q21.e K, q2h.e K] } 206 Tryz.func206 ⟨sh67, [hh6d], (.cons (.ty (.int .u64)) (.ty .err)), [hh6d]⟩ [] (fun x => f K x.1.2 x.2.1.1 x.2.1.2) (fun x r => ((r.1, r.2.1), (x.2.1.1, r.2.2), ())) fun x => by
  rw [q0b, f]
  try simp only [el]
  kernel_rfl
end q16
namespace q0s
noncomputable def f (K : Nat) (a0 : Int) (a1 : Err) (a2 : List Int) (a3 : Int) : Option (Int × Err × Int) := bif bif true then !a1.isNil else a1.isNil then some ((0 : Int), a1, a3) else (q16.f K (IntKind.u64.wrap a0) a2 a3).bind fun t => some (IntKind.i64.wrap t.1, t.2.1, t.2.2)
noncomputable def e (K : Nat) : En M := fnE (m := 2) { hmx := mxd, nt := 28, cs := [q16.e K] } 174 Tryz.func174 ⟨sh1b, hs6f, (.ty yI), hs6f⟩ [] (fun x => f K x.1.2 x.2.1.2 x.2.2.1.1 x.2.2.1.2) (fun x r => (r.1, ((), r.2.1), (x.2.2.1.1, r.2.2), ())) fun x => by
  rw [q0b, f]
  try simp only [el]
  kernel_rfl
end q0s
namespace q2u
noncomputable def f (K : Nat) (a0 : List Int) (a1 : Int) : Option (Int × Err × Int) := (q16.f K (18446744073709551615 : Int) a0 a1).bind fun t => some (IntKind.i64.wrap (↑(BitVec.ofInt (64 : Nat) (IntKind.i64.wrap (t.1.fdiv ((2 : Int) ^ (1 : Nat)))) ^^^ BitVec.ofInt (64 : Nat) (IntKind.i64.wrap ((0 : Int) - IntKind.i64.wrap (IntKind.u64.wrap (↑(BitVec.ofInt (64 : Nat) t.1 &&& BitVec.ofInt (64 : Nat) (1 : Int)).toNat : Int))))).toNat : Int), t.2.1, t.2.2)
noncomputable def e (K : Nat) : En M := fnE (m := 1) { hmx := mxd, nt := 20, cs := [q16.e K] } 179 Tryz.func179 ⟨(.ptr 0 0), [hh6d], (.cons (.ty yI) (.ty .err)), [hh6d]⟩ [] (fun x => f K x.2.1.1 x.2.1.2) (fun x r => ((r.1, r.2.1), (x.2.1.1, r.2.2), ())) fun x => by
  rw [q0b, f]
  try simp only [el]
  kernel_rfl
end q2u
namespace q11
noncomputable def f (K : Nat) (a0 : Err) (a1 : List Int) (a2 : Int) : Option (Int × Err × Int) := bif bif true then !a0.isNil else a0.isNil then some ((0 : Int), a0, a2) else q2u.f K a1 a2
noncomputable def e (K : Nat) : En M := fnE (m := 2) { hmx := mxd, nt := 23, cs := [q2u.e K] } 175 Tryz.func175 ⟨(.ptr 0 0), hs6f, (.ty yI), hs6f⟩ [] (fun x => f K x.2.1.2 x.2.2.1.1 x.2.2.1.2) (fun x r => (r.1, ((), r.2.1), (x.2.2.1.1, r.2.2), ())) fun x => by
  rw [q0b, f]
  try simp only [el]
  kernel_rfl
end q11
namespace q2l
noncomputable def f (K : Nat) (a0 : List Int) (a1 : Int) : Option (Err × Int × List Int × Int) := (q21.f K (18446744073709551615 : Int) a0 a1).bind fun t => bif t.2.2 != (0 : Int) then (q2h.f K t.2.2 a1).bind fun t => none else (q3b.f K a0 a1).bind fun t_1 => bif decide (t.1 > IntKind.u64.wrap (IntKind.i64.wrap (t_1 - t.2.1))) then (q2h.f K (2 : Int) a1).bind fun t => none else bif decide ((↑(0 : Nat) : Int) ≤ IntKind.i64.wrap (IntKind.i64.wrap (a1 + t.2.1) + IntKind.i64.wrap t.1)) && decide (IntKind.i64.wrap (IntKind.i64.wrap (a1 + t.2.1) + IntKind.i64.wrap t.1) ≤ (↑a0.length : Int)) && true then some (Err.nil, IntKind.i64.wrap (a1 + IntKind.i64.wrap (t.2.1 + IntKind.i64.wrap t.1)), List.drop (0 : Nat) (List.take (IntKind.i64.wrap (IntKind.i64.wrap (a1 + t.2.1) + IntKind.i64.wrap t.1)).toNat a0), IntKind.i64.wrap (a1 + t.2.1)) else none
noncomputable def e (K : Nat) : En M := fnE (m := 1) { hmx := mxd, nt := 68, cs := [q21.e K, q2h.e K, q3b.e K] } 70 Tryz.func70 ⟨(.ptr 0 0), [hh6d], (.cons (.ptr 1 0) (.ty .err)), [hh6d, hh6d]⟩ [] (fun x => f K x.2.1.1 x.2.1.2) (fun x r => (((), r.1), (x.2.1.1, r.2.1), (r.2.2.1, r.2.2.2), ())) fun x => by
  rw [q0b, f]
  try simp only [el]
  kernel_rfl
end q2l
namespace q4y
noncomputable def f (K : Nat) (a0 : Err) (a1 : List Int) (a2 : Int) : Option (ByteArray × Err × Int) := bif bif true then !a0.isNil else a0.isNil then some (ByteArray.mk #[], a0, a2) else (q2l.f K a1 a2).bind fun t => bif bif true then !t.1.isNil else t.1.isNil then some (ByteArray.mk #[], t.1, t.2.1) else (q3b.f K t.2.2.1 t.2.2.2).bind fun t_1 => (q2a.f K t_1 t.2.2.1 t.2.2.2).bind fun t_2 => some (strOf t_2.1, a0, t.2.1)
noncomputable def e (K : Nat) : En M := fnE (m := 2) { hmx := mxd, nt := 35, cs := [q2l.e K, q3b.e K, q2a.e K] } 177 Tryz.func177 ⟨(.ptr 0 0), hs6f, (.ty .str), hs6f⟩ [] (fun x => f K x.2.1.2 x.2.2.1.1 x.2.2.1.2) (fun x r => (r.1, ((), r.2.1), (x.2.2.1.1, r.2.2), ())) fun x => by
  rw [q0b, f]
  try simp only [el]
  kernel_rfl
end q4y
namespace q29
noncomputable def f (K : Nat) (a0 : List Int) (a1 : Int) : Option (Int × Err × Int) := bif a1 == (↑a0.length : Int) then (q2h.f K (2 : Int) a1).bind fun t => some ((0 : Int), t, a1) else bif decide ((0 : Int) ≤ IntKind.i64.wrap (IntKind.i64.wrap (a1 + (1 : Int)) - (1 : Int))) && true then a0[(IntKind.i64.wrap (IntKind.i64.wrap (a1 + (1 : Int)) - (1 : Int))).toNat]?.bind fun t => some (t, Err.nil, IntKind.i64.wrap (a1 + (1 : Int))) else none
noncomputable def e (K : Nat) : En M := fnE (m := 1) { hmx := mxd, nt := 40, cs := [q2h.e K] } 123 Tryz.func123 ⟨(.ptr 0 0), [hh6d], (.cons (.ty (.int .u8)) (.ty .err)), [hh6d]⟩ [] (fun x => f K x.2.1.1 x.2.1.2) (fun x r => ((r.1, r.2.1), (x.2.1.1, r.2.2), ())) fun x => by
  rw [q0b, f]
  try simp only [el]
  kernel_rfl
end q29
namespace q4g
noncomputable def X (K : Nat) : Fx M 2 := { hmx := mxd, nt := 48, cs := [q1m.e K, q29.e K, q1z.e K], cp := [(5, [.bool], [37])] }
noncomputable def f (K : Nat) (a0 : Int) (a1 : Err) (a2 : List Int) (a3 : Int) : Option (Int × Err × Int) := bif bif true then !a1.isNil else a1.isNil then some ((0 : Int), a1, a3) else (q1m.f K).bind fun t => (q29.f K a2 a3).bind fun t => q1c (bif bif false then !t.2.1.isNil else t.2.1.isNil then bif decide (t.1 < (1 : Int)) then some true else some (decide (IntKind.i64.wrap t.1 > a0)) else some false) fun t_1 => bif t_1 then (q1z.f K (Err.no (5 : Int)) [a3]).bind fun t_2 => some (IntKind.i64.wrap t.1, t_2, t.2.2) else some (IntKind.i64.wrap t.1, t.2.1, t.2.2)
noncomputable def e (K : Nat) : En M := fnE (X K) 226 Tryz.func226 ⟨sh1b, hs6f, (.ty yI), hs6f⟩ [] (fun x => f K x.1.2 x.2.1.2 x.2.2.1.1 x.2.2.1.2) (fun x r => (r.1, ((), r.2.1), (x.2.2.1.1, r.2.2), ())) fun x => by
  rw [q0b, f]
  try simp only [el]
  kernel_rfl
end q4g
namespace q3s
noncomputable def X (K : Nat) : Fx M 2 := { hmx := mxd, nt := 54, cs := [q4g.e K, q81.e K, q0s.e K, q11.e K] }
noncomputable def l0.f (K : Nat) : Nat → Int → Int → Err → List Int → Int → List Int → Option (Err × Int × List Int)
  | 0, _, _, _, _, _, _ => none
  | k + 1, a0, a1, a2, a3, a4, a16 => bif decide (a1 < a0) then (q0s.f K (7 : Int) a2 a3 a4).bind fun t => bif (a16.length + [t.1].length).ble (1000000 : Nat) then l0.f K k a0 (IntKind.i64.wrap (a1 + (1 : Int))) t.2.1 a3 t.2.2 (a16 ++ [t.1]) else none else some (a2, a4, a16)
noncomputable def l0.b (K : Nat) : Lp M 2 := q2d (X K) 14 54 1 (q0o Tryz.f216 0) ⟨[0, 2, 3, 42, 43], sh70, hs71⟩ ⟨[2, 3], (.cons (.ptr 2 0) (.ptr 3 0)), hs71⟩ K [] (fun k x => l0.f K k x.1.2.2.2.1 x.1.2.2.2.2 x.2.1.2 x.2.2.1.1 x.2.2.1.2 x.2.2.2.2.2.2.1) (fun x r => (((), ()), ((), r.1), (x.2.2.1.1, r.2.1), x.2.2.2.1, x.2.2.2.2.1, x.2.2.2.2.2.1, r.2.2, ())) fun k x => by
  rw [q0b, l0.f]
  try simp only [el]
  kernel_rfl
noncomputable def f (K : Nat) (a0 : Err) (a1 : List Int) (a2 : Int) : Option (Int × Int × Int × Int × Int × List Int × Err × Int) := (q4g.f K (17 : Int) a0 a1 a2).bind fun t => (q81.f K t.1).bind fun t_1 => bif t_1.1 then (q0s.f K (7 : Int) t.2.1 a1 t.2.2).bind fun t_2 => bif t_1.2.1 then (q0s.f K (7 : Int) t_2.2.1 a1 t_2.2.2).bind fun t_3 => bif t_1.2.2.1 then (q0s.f K t_1.2.2.2.1 t_3.2.1 a1 t_3.2.2).bind fun t_4 => bif t.1 == (1 : Int) then (q11.f K t_4.2.1 a1 t_4.2.2).bind fun t_5 => some (t.1, t_2.1, t_3.1, t_4.1, t_5.1, [], t_5.2.1, t_5.2.2) else bif t.1 == (17 : Int) then (q0s.f K (4 : Int) t_4.2.1 a1 t_4.2.2).bind fun t_5 => (l0.f K K t_5.1 (0 : Int) t_5.2.1 a1 t_5.2.2 []).bind fun t_6 => some (t.1, t_2.1, t_3.1, t_4.1, (0 : Int), t_6.2.2, t_6.1, t_6.2.1) else some (t.1, t_2.1, t_3.1, t_4.1, (0 : Int), [], t_4.2.1, t_4.2.2) else bif t.1 == (1 : Int) then (q11.f K t_3.2.1 a1 t_3.2.2).bind fun t_4 => some (t.1, t_2.1, t_3.1, (0 : Int), t_4.1, [], t_4.2.1, t_4.2.2) else bif t.1 == (17 : Int) then (q0s.f K (4 : Int) t_3.2.1 a1 t_3.2.2).bind fun t_4 => (l0.f K K t_4.1 (0 : Int) t_4.2.1 a1 t_4.2.2 []).bind fun t_5 => some (t.1, t_2.1, t_3.1, (0 : Int), (0 : Int), t_5.2.2, t_5.1, t_5.2.1) else some (t.1, t_2.1, t_3.1, (0 : Int), (0 : Int), [], t_3.2.1, t_3.2.2) else bif t_1.2.2.1 then (q0s.f K t_1.2.2.2.1 t_2.2.1 a1 t_2.2.2).bind fun t_3 => bif t.1 == (1 : Int) then (q11.f K t_3.2.1 a1 t_3.2.2).bind fun t_4 => some (t.1, t_2.1, (0 : Int), t_3.1, t_4.1, [], t_4.2.1, t_4.2.2) else bif t.1 == (17 : Int) then (q0s.f K (4 : Int) t_3.2.1 a1 t_3.2.2).bind fun t_4 => (l0.f K K t_4.1 (0 : Int) t_4.2.1 a1 t_4.2.2 []).bind fun t_5 => some (t.1, t_2.1, (0 : Int), t_3.1, (0 : Int), t_5.2.2, t_5.1, t_5.2.1) else some (t.1, t_2.1, (0 : Int), t_3.1, (0 : Int), [], t_3.2.1, t_3.2.2) else bif t.1 == (1 : Int) then (q11.f K t_2.2.1 a1 t_2.2.2).bind fun t_3 => some (t.1, t_2.1, (0 : Int), (0 : Int), t_3.1, [], t_3.2.1, t_3.2.2) else bif t.1 == (17 : Int) then (q0s.f K (4 : Int) t_2.2.1 a1 t_2.2.2).bind fun t_3 => (l0.f K K t_3.1 (0 : Int) t_3.2.1 a1 t_3.2.2 []).bind fun t_4 => some (t.1, t_2.1, (0 : Int), (0 : Int), (0 : Int), t_4.2.2, t_4.1, t_4.2.1) else some (t.1, t_2.1, (0 : Int), (0 : Int), (0 : Int), [], t_2.2.1, t_2.2.2) else bif t_1.2.1 then (q0s.f K (7 : Int) t.2.1 a1 t.2.2).bind fun t_2 => bif t_1.2.2.1 then (q0s.f K t_1.2.2.2.1 t_2.2.1 a1 t_2.2.2).bind fun t_3 => bif t.1 == (1 : Int) then (q11.f K t_3.2.1 a1 t_3.2.2).bind fun t_4 => some (t.1, (0 : Int), t_2.1, t_3.1, t_4.1, [], t_4.2.1, t_4.2.2) else bif t.1 == (17 : Int) then (q0s.f K (4 : Int) t_3.2.1 a1 t_3.2.2).bind fun t_4 => (l0.f K K t_4.1 (0 : Int) t_4.2.1 a1 t_4.2.2 []).bind fun t_5 => some (t.1, (0 : Int), t_2.1, t_3.1, (0 : Int), t_5.2.2, t_5.1, t_5.2.1) else some (t.1, (0 : Int), t_2.1, t_3.1, (0 : Int), [], t_3.2.1, t_3.2.2) else bif t.1 == (1 : Int) then (q11.f K t_2.2.1 a1 t_2.2.2).bind fun t_3 => some (t.1, (0 : Int), t_2.1, (0 : Int), t_3.1, [], t_3.2.1, t_3.2.2) else bif t.1 == (17 : Int) then (q0s.f K (4 : Int) t_2.2.1 a1 t_2.2.2).bind fun t_3 => (l0.f K K t_3.1 (0 : Int) t_3.2.1 a1 t_3.2.2 []).bind fun t_4 => some (t.1, (0 : Int), t_2.1, (0 : Int), (0 : Int), t_4.2.2, t_4.1, t_4.2.1) else some (t.1, (0 : Int), t_2.1, (0 : Int), (0 : Int), [], t_2.2.1, t_2.2.2) else bif t_1.2.2.1 then (q0s.f K t_1.2.2.2.1 t.2.1 a1 t.2.2).bind fun t_2 => bif t.1 == (1 : Int) then (q11.f K t_2.2.1 a1 t_2.2.2).bind fun t_3 => some (t.1, (0 : Int), (0 : Int), t_2.1, t_3.1, [], t_3.2.1, t_3.2.2) else bif t.1 == (17 : Int) then (q0s.f K (4 : Int) t_2.2.1 a1 t_2.2.2).bind fun t_3 => (l0.f K K t_3.1 (0 : Int) t_3.2.1 a1 t_3.2.2 []).bind fun t_4 => some (t.1, (0 : Int), (0 : Int), t_2.1, (0 : Int), t_4.2.2, t_4.1, t_4.2.1) else some (t.1, (0 : Int), (0 : Int), t_2.1, (0 : Int), [], t_2.2.1, t_2.2.2) else bif t.1 == (1 : Int) then (q11.f K t.2.1 a1 t.2.2).bind fun t_2 => some (t.1, (0 : Int), (0 : Int), (0 : Int), t_2.1, [], t_2.2.1, t_2.2.2) else bif t.1 == (17 : Int) then (q0s.f K (4 : Int) t.2.1 a1 t.2.2).bind fun t_2 => (l0.f K K t_2.1 (0 : Int) t_2.2.1 a1 t_2.2.2 []).bind fun t_3 => some (t.1, (0 : Int), (0 : Int), (0 : Int), (0 : Int), t_3.2.2, t_3.1, t_3.2.1) else some (t.1, (0 : Int), (0 : Int), (0 : Int), (0 : Int), [], t.2.1, t.2.2)
noncomputable def e (K : Nat) : En M := fnE (X K) 216 Tryz.func216 ⟨(.ptr 0 0), hs6f, sh58, hs6f⟩ [l0.b K] (fun x => f K x.2.1.2 x.2.2.1.1 x.2.2.1.2) (fun x r => ((r.1, r.2.1, r.2.2.1, r.2.2.2.1, r.2.2.2.2.1, r.2.2.2.2.2.1), ((), r.2.2.2.2.2.2.1), (x.2.2.1.1, r.2.2.2.2.2.2.2), ())) fun x => by
  rw [q0b, f]
  try simp only [el]
  kernel_rfl
end q3s
namespace q63
noncomputable def f (K : Nat) (a0 : Err) (a1 : List Int) (a2 : Int) : Option (Int × Int × Int × Int × Err × Int) := (q4g.f K (3 : Int) a0 a1 a2).bind fun t => bif t.1 != (1 : Int) then (q0s.f K (7 : Int) t.2.1 a1 t.2.2).bind fun t_1 => bif t.1 != (3 : Int) then (q0s.f K (11 : Int) t_1.2.1 a1 t_1.2.2).bind fun t_2 => bif t.1 == (2 : Int) then (q0s.f K (11 : Int) t_2.2.1 a1 t_2.2.2).bind fun t_3 => some (t.1, t_1.1, t_2.1, t_3.1, t_3.2.1, t_3.2.2) else some (t.1, t_1.1, t_2.1, (0 : Int), t_2.2.1, t_2.2.2) else bif t.1 == (2 : Int) then (q0s.f K (11 : Int) t_1.2.1 a1 t_1.2.2).bind fun t_2 => some (t.1, t_1.1, (0 : Int), t_2.1, t_2.2.1, t_2.2.2) else some (t.1, t_1.1, (0 : Int), (0 : Int), t_1.2.1, t_1.2.2) else bif t.1 != (3 : Int) then (q0s.f K (11 : Int) t.2.1 a1 t.2.2).bind fun t_1 => bif t.1 == (2 : Int) then (q0s.f K (11 : Int) t_1.2.1 a1 t_1.2.2).bind fun t_2 => some (t.1, (0 : Int), t_1.1, t_2.1, t_2.2.1, t_2.2.2) else some (t.1, (0 : Int), t_1.1, (0 : Int), t_1.2.1, t_1.2.2) else bif t.1 == (2 : Int) then (q0s.f K (11 : Int) t.2.1 a1 t.2.2).bind fun t_1 => some (t.1, (0 : Int), (0 : Int), t_1.1, t_1.2.1, t_1.2.2) else some (t.1, (0 : Int), (0 : Int), (0 : Int), t.2.1, t.2.2)
noncomputable def e (K : Nat) : En M := fnE (m := 2) { hmx := mxd, nt := 26, cs := [q4g.e K, q0s.e K] } 217 Tryz.func217 ⟨(.ptr 0 0), hs6f, sh57, hs6f⟩ [] (fun x => f K x.2.1.2 x.2.2.1.1 x.2.2.1.2) (fun x r => ((r.1, r.2.1, r.2.2.1, r.2.2.2.1), ((), r.2.2.2.2.1), (x.2.2.1.1, r.2.2.2.2.2), ())) fun x => by
  rw [q0b, f]
  try simp only [el]
  kernel_rfl
end q63
namespace q3v
noncomputable def X (K : Nat) : Fx M 2 := { hmx := mxd, nt := 20, cs := [q0s.e K, q3s.e K, q63.e K] }
noncomputable def l0.f (K : Nat) : Nat → Int → Int → Err → List Int → Int → List q32 → Option (Err × Int × List q32)
  | 0, _, _, _, _, _, _ => none
  | k + 1, a0, a1, a2, a3, a4, a14 => bif decide (a1 < a0) then (q3s.f K a2 a3 a4).bind fun t => bif (a14.length + [(t.1, t.2.1, t.2.2.1, t.2.2.2.1, t.2.2.2.2.1, t.2.2.2.2.2.1)].length).ble (1000000 : Nat) then l0.f K k a0 (IntKind.i64.wrap (a1 + (1 : Int))) t.2.2.2.2.2.2.1 a3 t.2.2.2.2.2.2.2 (a14 ++ [(t.1, t.2.1, t.2.2.1, t.2.2.2.1, t.2.2.2.2.1, t.2.2.2.2.2.1)]) else none else some (a2, a4, a14)
noncomputable def l0.b (K : Nat) : Lp M 2 := q2d (X K) 3 20 0 (q0o Tryz.f207 0) ⟨[0, 2, 3, 5, 6], sh70, hs73⟩ ⟨[0, 2, 3], sh74, hs73⟩ K [] (fun k x => l0.f K k x.1.2.2.2.1 x.1.2.2.2.2 x.2.1.2 x.2.2.1.1 x.2.2.1.2 x.2.2.2.2.2.2.1) (fun x r => (((), (), ()), ((), r.1), (x.2.2.1.1, r.2.1), x.2.2.2.1, x.2.2.2.2.1, x.2.2.2.2.2.1, r.2.2, ())) fun k x => by
  rw [q0b, l0.f]
  try simp only [el]
  kernel_rfl
noncomputable def f (K : Nat) (a0 : Err) (a1 : List Int) (a2 : Int) : Option (List q32 × Int × Int × Int × Int × Err × Int) := (q0s.f K (12 : Int) a0 a1 a2).bind fun t => (l0.f K K t.1 (0 : Int) t.2.1 a1 t.2.2 []).bind fun t => (q63.f K t.1 a1 t.2.1).bind fun t_1 => some (t.2.2, t_1.1, t_1.2.1, t_1.2.2.1, t_1.2.2.2.1, t_1.2.2.2.2.1, t_1.2.2.2.2.2)
noncomputable def e (K : Nat) : En M := fnE (X K) 207 Tryz.func207 ⟨(.ptr 0 0), hs6f, sh72, hs6f⟩ [l0.b K] (fun x => f K x.2.1.2 x.2.2.1.1 x.2.2.1.2) (fun x r => ((r.1, r.2.1, r.2.2.1, r.2.2.2.1, r.2.2.2.2.1), ((), r.2.2.2.2.2.1), (x.2.2.1.1, r.2.2.2.2.2.2), ())) fun x => by
  rw [q0b, f]
  try simp only [el]
  kernel_rfl
end q3v
namespace q27
noncomputable def X (K : Nat) : Fx M 2 := { hmx := mxd, nt := 26, cs := [q4y.e K, q0s.e K, q3v.e K] }
noncomputable def l0.f (K : Nat) : Nat → Int → Int → Err → List Int → Int → List q1k → Option (Err × Int × List q1k)
  | 0, _, _, _, _, _, _ => none
  | k + 1, a0, a1, a2, a3, a4, a12 => bif decide (a1 < a0) then (q3v.f K a2 a3 a4).bind fun t => bif (a12.length + [(t.1, t.2.1, t.2.2.1, t.2.2.2.1, t.2.2.2.2.1)].length).ble (1000000 : Nat) then l0.f K k a0 (IntKind.i64.wrap (a1 + (1 : Int))) t.2.2.2.2.2.1 a3 t.2.2.2.2.2.2 (a12 ++ [(t.1, t.2.1, t.2.2.1, t.2.2.2.1, t.2.2.2.2.1)]) else none else some (a2, a4, a12)
noncomputable def l0.b (K : Nat) : Lp M 2 := q2d (X K) 5 26 0 (q0o Tryz.f176 0) ⟨[0, 2, 3, 14, 15], sh70, hs75⟩ ⟨[2, 3], (.cons (.ptr 2 0) (.ptr 3 0)), hs75⟩ K [] (fun k x => l0.f K k x.1.2.2.2.1 x.1.2.2.2.2 x.2.1.2 x.2.2.1.1 x.2.2.1.2 x.2.2.2.2.2.2.1) (fun x r => (((), ()), ((), r.1), (x.2.2.1.1, r.2.1), x.2.2.2.1, x.2.2.2.2.1, x.2.2.2.2.2.1, r.2.2, ())) fun k x => by
  rw [q0b, l0.f]
  try simp only [el]
  kernel_rfl
noncomputable def f (K : Nat) (a0 : Err) (a1 : List Int) (a2 : Int) : Option (ByteArray × Int × Int × List q1k × Err × Int) := (q4y.f K a0 a1 a2).bind fun t => (q0s.f K (4 : Int) t.2.1 a1 t.2.2).bind fun t_1 => (q0s.f K (8 : Int) t_1.2.1 a1 t_1.2.2).bind fun t_2 => (q0s.f K (12 : Int) t_2.2.1 a1 t_2.2.2).bind fun t_3 => (l0.f K K t_3.1 (0 : Int) t_3.2.1 a1 t_3.2.2 []).bind fun t_4 => some (t.1, t_1.1, t_2.1, t_4.2.2, t_4.1, t_4.2.1)
noncomputable def e (K : Nat) : En M := fnE (X K) 176 Tryz.func176 ⟨(.ptr 0 0), hs6f, sh59, hs6f⟩ [l0.b K] (fun x => f K x.2.1.2 x.2.2.1.1 x.2.2.1.2) (fun x r => ((r.1, r.2.1, r.2.2.1, r.2.2.2.1), ((), r.2.2.2.2.1), (x.2.2.1.1, r.2.2.2.2.2), ())) fun x => by
  rw [q0b, f]
  try simp only [el]
  kernel_rfl
end q27
namespace q4h
noncomputable def f (K : Nat) (a0 : List Int) (a1 : Int) : Option (Err) := (q3b.f K a0 a1).bind fun t => bif decide (t > (0 : Int)) then q2h.f K (3 : Int) a1 else some Err.nil
noncomputable def e (K : Nat) : En M := fnE (m := 1) { hmx := mxd, nt := 14, cs := [q3b.e K, q2h.e K] } 75 Tryz.func75 ⟨(.ptr 0 0), [hh6d], (.ty .err), [hh6d]⟩ [] (fun x => f K x.2.1.1 x.2.1.2) (fun x r => (r, x.2)) fun x => by
  rw [q0b, f]
  try simp only [el]
  kernel_rfl
end q4h
namespace q1w
noncomputable def X (K : Nat) : Fx M 2 := { hmx := mxd, nt := 88, cs := [q1m.e K, q2a.e K, q1z.e K, q0s.e K, q11.e K, q27.e K, q4y.e K, q4h.e K], cp := [(4, [.bool], [26])] }
noncomputable def l2.f (K : Nat) : Nat → Int → Int → Err → List Int → Int → List q0h → Option (Err × Int × List q0h)
  | 0, _, _, _, _, _, _ => none
  | k + 1, a0, a1, a2, a3, a4, a10 => bif decide (a1 < a0) then (q4y.f K a2 a3 a4).bind fun t => (q0s.f K (4 : Int) t.2.1 a3 t.2.2).bind fun t_1 => bif (a10.length + [(t.1, t_1.1)].length).ble (1000000 : Nat) then l2.f K k a0 (IntKind.i64.wrap (a1 + (1 : Int))) t_1.2.1 a3 t_1.2.2 (a10 ++ [(t.1, t_1.1)]) else none else some (a2, a4, a10)
noncomputable def l2.b (K : Nat) : Lp M 2 := q2d (X K) 16 88 4 (q0o Tryz.f125 2) ⟨[0, 2, 3, 60, 61], sh70, hs76⟩ ⟨[0, 2, 3], sh74, hs76⟩ K [] (fun k x => l2.f K k x.1.2.2.2.1 x.1.2.2.2.2 x.2.1.2 x.2.2.1.1 x.2.2.1.2 x.2.2.2.2.2.2.2.2.2.2.1) (fun x r => (((), (), ()), ((), r.1), (x.2.2.1.1, r.2.1), ((), (), ()), ((), (), ()), x.2.2.2.2.2.1, x.2.2.2.2.2.2.1, x.2.2.2.2.2.2.2.1, x.2.2.2.2.2.2.2.2.1, x.2.2.2.2.2.2.2.2.2.1, r.2.2, ())) fun k x => by
  rw [q0b, l2.f]
  try simp only [el]
  kernel_rfl
noncomputable def l1.f (K : Nat) : Nat → Int → Int → Err → List Int → Int → List q0t → Option (Err × List Int × Int × List q0t)
  | 0, _, _, _, _, _, _ => none
  | k + 1, a0, a1, a2, a3, a4, a9 => bif decide (a1 < a0) then (q27.f K a2 a3 a4).bind fun t => bif (a9.length + [(t.1, t.2.1, t.2.2.1, t.2.2.2.1)].length).ble (1000000 : Nat) then l1.f K k a0 (IntKind.i64.wrap (a1 + (1 : Int))) t.2.2.2.2.1 a3 t.2.2.2.2.2 (a9 ++ [(t.1, t.2.1, t.2.2.1, t.2.2.2.1)]) else none else some (a2, a3, a4, a9)
noncomputable def l1.b (K : Nat) : Lp M 2 := q2d (X K) 12 88 2 (q0o Tryz.f125 1) ⟨[0, 2, 3, 48, 49], sh70, hs76⟩ ⟨[0, 2, 3], sh74, hs76⟩ K [] (fun k x => l1.f K k x.1.2.2.2.1 x.1.2.2.2.2 x.2.1.2 x.2.2.1.1 x.2.2.1.2 x.2.2.2.2.2.2.2.2.2.1) (fun x r => (((), (), ()), ((), r.1), (r.2.1, r.2.2.1), ((), (), ()), ((), (), ()), x.2.2.2.2.2.1, x.2.2.2.2.2.2.1, x.2.2.2.2.2.2.2.1, x.2.2.2.2.2.2.2.2.1, r.2.2.2, x.2.2.2.2.2.2.2.2.2.2)) fun k x => by
  rw [q0b, l1.f]
  try simp only [el]
  kernel_rfl
noncomputable def l0.f (K : Nat) : Nat → Int → Int → Err → List Int → Int → List Int → Option (Err × Int × List Int)
  | 0, _, _, _, _, _, _ => none
  | k + 1, a0, a1, a2, a3, a4, a8 => bif decide (a1 < a0) then (q11.f K a2 a3 a4).bind fun t => bif (a8.length + [t.1].length).ble (1000000 : Nat) then l0.f K k a0 (IntKind.i64.wrap (a1 + (1 : Int))) t.2.1 a3 t.2.2 (a8 ++ [t.1]) else none else some (a2, a4, a8)
noncomputable def l0.b (K : Nat) : Lp M 2 := q2d (X K) 8 88 0 (q0o Tryz.f125 0) ⟨[0, 2, 3, 36, 37], sh70, hs76⟩ ⟨[0, 2, 3], sh74, hs76⟩ K [] (fun k x => l0.f K k x.1.2.2.2.1 x.1.2.2.2.2 x.2.1.2 x.2.2.1.1 x.2.2.1.2 x.2.2.2.2.2.2.2.2.1) (fun x r => (((), (), ()), ((), r.1), (x.2.2.1.1, r.2.1), ((), (), ()), ((), (), ()), x.2.2.2.2.2.1, x.2.2.2.2.2.2.1, x.2.2.2.2.2.2.2.1, r.2.2, x.2.2.2.2.2.2.2.2.2)) fun k x => by
  rw [q0b, l0.f]
  try simp only [el]
  kernel_rfl
noncomputable def f (K : Nat) (a1 : List Int) (a2 : Int) : Option (List Int × List q0t × List q0h × Err × List Int × Int) := (q1m.f K).bind fun t => (q2a.f K (3 : Int) a1 a2).bind fun t => q1c (bif bif false then !t.2.1.isNil else t.2.1.isNil then some !(strOf t.1).toList == (ByteArray.mk #[(65 : UInt8), (86 : UInt8), (1 : UInt8)]).toList else some false) fun t_1 => bif t_1 then (q1z.f K (Err.no (3 : Int)) [a2]).bind fun t_2 => (q0s.f K (16 : Int) t_2 a1 t.2.2).bind fun t => (l0.f K K t.1 (0 : Int) t.2.1 a1 t.2.2 []).bind fun t => (q0s.f K (24 : Int) t.1 a1 t.2.1).bind fun t_3 => (l1.f K K t_3.1 (0 : Int) t_3.2.1 a1 t_3.2.2 []).bind fun t_4 => (q0s.f K (24 : Int) t_4.1 t_4.2.1 t_4.2.2.1).bind fun t_5 => (l2.f K K t_5.1 (0 : Int) t_5.2.1 t_4.2.1 t_5.2.2 []).bind fun t_6 => bif bif false then !t_6.1.isNil else t_6.1.isNil then (q4h.f K t_4.2.1 t_6.2.1).bind fun t_7 => some (t.2.2, t_4.2.2.2, t_6.2.2, t_7, t_4.2.1, t_6.2.1) else some (t.2.2, t_4.2.2.2, t_6.2.2, t_6.1, t_4.2.1, t_6.2.1) else (q0s.f K (16 : Int) t.2.1 a1 t.2.2).bind fun t => (l0.f K K t.1 (0 : Int) t.2.1 a1 t.2.2 []).bind fun t => (q0s.f K (24 : Int) t.1 a1 t.2.1).bind fun t_2 => (l1.f K K t_2.1 (0 : Int) t_2.2.1 a1 t_2.2.2 []).bind fun t_3 => (q0s.f K (24 : Int) t_3.1 t_3.2.1 t_3.2.2.1).bind fun t_4 => (l2.f K K t_4.1 (0 : Int) t_4.2.1 t_3.2.1 t_4.2.2 []).bind fun t_5 => bif bif false then !t_5.1.isNil else t_5.1.isNil then (q4h.f K t_3.2.1 t_5.2.1).bind fun t_6 => some (t.2.2, t_3.2.2.2, t_5.2.2, t_6, t_3.2.1, t_5.2.1) else some (t.2.2, t_3.2.2.2, t_5.2.2, t_5.1, t_3.2.1, t_5.2.1)
noncomputable def e (K : Nat) : En M := fnE (X K) 125 Tryz.func125 ⟨(.ptr 0 0), hs6f, sh0, hs6f⟩ [l0.b K, l1.b K, l2.b K] (fun x => f K x.2.2.1.1 x.2.2.1.2) (fun x r => ((r.1, r.2.1, r.2.2.1), ((), r.2.2.2.1), (r.2.2.2.2.1, r.2.2.2.2.2), ())) fun x => by
  rw [q0b, f]
  try simp only [el]
  kernel_rfl
end q1w
namespace q8j
noncomputable def f (K : Nat) (a0 : List Int) (a1 : Int) : Option (List Int × List q0t × List q0h × Err × List Int × Int) := (q1w.f K a0 a1).bind fun t => bif bif false then !t.2.2.2.1.isNil else t.2.2.2.1.isNil then (q4o.f K t.1 t.2.1 t.2.2.1).bind fun t_1 => bif bif true then !t_1.isNil else t_1.isNil then some ([], [], [], t_1, t.2.2.2.2.1, t.2.2.2.2.2) else some (t.1, t.2.1, t.2.2.1, Err.nil, t.2.2.2.2.1, t.2.2.2.2.2) else bif bif true then !t.2.2.2.1.isNil else t.2.2.2.1.isNil then some ([], [], [], t.2.2.2.1, t.2.2.2.2.1, t.2.2.2.2.2) else some (t.1, t.2.1, t.2.2.1, Err.nil, t.2.2.2.2.1, t.2.2.2.2.2)
noncomputable def e (K : Nat) : En M := fnE (m := 1) { hmx := mxd, nt := 32, cs := [q1w.e K, q4o.e K] } 71 Tryz.func71 ⟨(.ptr 0 0), [hh6d], sh77, [hh6d]⟩ [] (fun x => f K x.2.1.1 x.2.1.2) (fun x r => (((r.1, r.2.1, r.2.2.1), r.2.2.2.1), (r.2.2.2.2.1, r.2.2.2.2.2), ())) fun x => by
  rw [q0b, f]
  try simp only [el]
  kernel_rfl
end q8j
namespace z5h
noncomputable def f (K : Nat) (a0 : List Int) : Option (List Int × List q0t × List q0h × Err) := (q9w.f K a0).bind fun t => (q8j.f K t.1 t.2).bind fun t => some (t.1, t.2.1, t.2.2.1, t.2.2.2.1)
noncomputable def e (K : Nat) : En M := fnE (m := 0) { hmx := mxd, nt := 9, cs := [q9w.e K, q8j.e K] } 26 Tryz.func26 ⟨sh69, [], sh77, []⟩ [] (fun x => f K x.1) (fun x r => (((r.1, r.2.1, r.2.2.1), r.2.2.2), ())) fun x => by
  rw [q0b, f]
  try simp only [el]
  kernel_rfl
end z5h
noncomputable def q01.sig : Sig := ⟨(.ty (.slice yI)), [], (.ty (.slice yI)), []⟩
noncomputable def q01.f (K : Nat) (a0 : List Int) : Option (List Int) := bif (0 + a0.length).ble 1000000 then some a0 else none
noncomputable def q01.F (K : Nat) : q01.sig.In → Option (List Int) := fun x => q01.f K x.1
noncomputable def q01.cv : q01.sig.In → (List Int) → q01.sig.Ou := fun x r => (r, ())
theorem q01.rets (K : Nat) : ∀ x y, q3r (q01.F K) q01.cv x = some y → Rets M 82 q01.sig x y := fun x y h =>
  q6v (M := M) (g := q01.sig) (T := yI) (e := 2) (n := 8) (L := 1) (x := x.1) (args0 := x.1) (G := fun xs => bif (0 + xs.length).ble 1000000 then some (q01.cv (xs, ()) xs) else none) (by kernel_rfl) Tryz.func82 (show Tryz.f82.body = some (.seq _ (.seq (.seq (.region _ #[⟨some 3, .move (.tmp 0), _, _, _, none⟩, ⟨some 4, .binOp .eql _ (.tmp 3) (.const (.slice none 0 0)) _, _, _, _, none⟩] false) _) _)) from rfl)
    (by kernel_rfl) rfl rfl (by kernel_rfl) (by decide) (by kernel_rfl) (by kernel_rfl) (by kernel_rfl) (by kernel_rfl) (by kernel_rfl) (by kernel_rfl) (Eq.trans (show (bif (0 + x.1.length).ble 1000000 then some (q01.cv x x.1) else none) = (bif (0 + x.1.length).ble 1000000 then some x.1 else none).bind fun r => some (q01.cv x r) by rw [q6z]; rfl) h) x.2
noncomputable def q01.e (K : Nat) : En M := ⟨82, q01.sig, _, q01.F K, q01.cv, by rfl, Tryz.f82, Tryz.func82, by kernel_rfl, rfl, q01.rets K⟩
noncomputable def q0n.sig : Sig := ⟨(.ty (.slice yI)), [], (.own 0), [.list 2 yI []]⟩
noncomputable def q0n.f (K : Nat) (a0 : List Int) : Option (List Int) := bif (0 + a0.length).ble 1000000 then some a0 else none
noncomputable def q0n.F (K : Nat) : q0n.sig.In → Option (List Int) := fun x => q0n.f K x.1
noncomputable def q0n.cv : q0n.sig.In → (List Int) → q0n.sig.Ou := fun x r => ((), (r, ()))
theorem q0n.rets (K : Nat) : ∀ x y, q3r (q0n.F K) q0n.cv x = some y → Rets M 82 q0n.sig x y := fun x y h =>
  q6v (M := M) (g := q0n.sig) (T := yI) (e := 2) (n := 8) (L := 1) (x := x.1) (args0 := x.1) (G := fun xs => bif (0 + xs.length).ble 1000000 then some (q0n.cv (xs, ()) xs) else none) (by kernel_rfl) Tryz.func82 (show Tryz.f82.body = some (.seq _ (.seq (.seq (.region _ #[⟨some 3, .move (.tmp 0), _, _, _, none⟩, ⟨some 4, .binOp .eql _ (.tmp 3) (.const (.slice none 0 0)) _, _, _, _, none⟩] false) _) _)) from rfl)
    (by kernel_rfl) rfl rfl (by kernel_rfl) (by decide) (by kernel_rfl) (by kernel_rfl) (by kernel_rfl) (by kernel_rfl) (by kernel_rfl) (by kernel_rfl) (Eq.trans (show (bif (0 + x.1.length).ble 1000000 then some (q0n.cv x x.1) else none) = (bif (0 + x.1.length).ble 1000000 then some x.1 else none).bind fun r => some (q0n.cv x r) by rw [q6z]; rfl) h) x.2
noncomputable def q0n.e (K : Nat) : En M := ⟨82, q0n.sig, _, q0n.F K, q0n.cv, by rfl, Tryz.f82, Tryz.func82, by kernel_rfl, rfl, q0n.rets K⟩
noncomputable def q0g.sig : Sig := ⟨(.ty (.slice q2f)), [], (.own 0), [.list 86 q2f []]⟩
noncomputable def q0g.f (K : Nat) (a0 : List q0h) : Option (List q0h) := bif (0 + a0.length).ble 1000000 then some a0 else none
noncomputable def q0g.F (K : Nat) : q0g.sig.In → Option (List q0h) := fun x => q0g.f K x.1
noncomputable def q0g.cv : q0g.sig.In → (List q0h) → q0g.sig.Ou := fun x r => ((), (r, ()))
theorem q0g.rets (K : Nat) : ∀ x y, q3r (q0g.F K) q0g.cv x = some y → Rets M 134 q0g.sig x y := fun x y h =>
  q6v (M := M) (g := q0g.sig) (T := q2f) (e := 86) (n := 8) (L := 1) (x := x.1) (args0 := x.1) (G := fun xs => bif (0 + xs.length).ble 1000000 then some (q0g.cv (xs, ()) xs) else none) (by kernel_rfl) Tryz.func134 (show Tryz.f134.body = some (.seq _ (.seq (.seq (.region _ #[⟨some 3, .move (.tmp 0), _, _, _, none⟩, ⟨some 4, .binOp .eql _ (.tmp 3) (.const (.slice none 0 0)) _, _, _, _, none⟩] false) _) _)) from rfl)
    (by kernel_rfl) rfl rfl (by kernel_rfl) (by decide) (by kernel_rfl) (by kernel_rfl) (by kernel_rfl) (by kernel_rfl) (by kernel_rfl) (by kernel_rfl) (Eq.trans (show (bif (0 + x.1.length).ble 1000000 then some (q0g.cv x x.1) else none) = (bif (0 + x.1.length).ble 1000000 then some x.1 else none).bind fun r => some (q0g.cv x r) by rw [q6z]; rfl) h) x.2
noncomputable def q0g.e (K : Nat) : En M := ⟨134, q0g.sig, _, q0g.F K, q0g.cv, by rfl, Tryz.f134, Tryz.func134, by kernel_rfl, rfl, q0g.rets K⟩
noncomputable def q0k.sig : Sig := ⟨(.ty (.slice q3f)), [], (.own 0), [.list 106 q3f []]⟩
noncomputable def q0k.f (K : Nat) (a0 : List q1k) : Option (List q1k) := bif (0 + a0.length).ble 1000000 then some a0 else none
noncomputable def q0k.F (K : Nat) : q0k.sig.In → Option (List q1k) := fun x => q0k.f K x.1
noncomputable def q0k.cv : q0k.sig.In → (List q1k) → q0k.sig.Ou := fun x r => ((), (r, ()))
theorem q0k.rets (K : Nat) : ∀ x y, q3r (q0k.F K) q0k.cv x = some y → Rets M 188 q0k.sig x y := fun x y h =>
  q6v (M := M) (g := q0k.sig) (T := q3f) (e := 106) (n := 8) (L := 1) (x := x.1) (args0 := x.1) (G := fun xs => bif (0 + xs.length).ble 1000000 then some (q0k.cv (xs, ()) xs) else none) (by kernel_rfl) Tryz.func188 (show Tryz.f188.body = some (.seq _ (.seq (.seq (.region _ #[⟨some 3, .move (.tmp 0), _, _, _, none⟩, ⟨some 4, .binOp .eql _ (.tmp 3) (.const (.slice none 0 0)) _, _, _, _, none⟩] false) _) _)) from rfl)
    (by kernel_rfl) rfl rfl (by kernel_rfl) (by decide) (by kernel_rfl) (by kernel_rfl) (by kernel_rfl) (by kernel_rfl) (by kernel_rfl) (by kernel_rfl) (Eq.trans (show (bif (0 + x.1.length).ble 1000000 then some (q0k.cv x x.1) else none) = (bif (0 + x.1.length).ble 1000000 then some x.1 else none).bind fun r => some (q0k.cv x r) by rw [q6z]; rfl) h) x.2
noncomputable def q0k.e (K : Nat) : En M := ⟨188, q0k.sig, _, q0k.F K, q0k.cv, by rfl, Tryz.f188, Tryz.func188, by kernel_rfl, rfl, q0k.rets K⟩
noncomputable def q0m.sig : Sig := ⟨(.ty (.slice q69)), [], (.own 0), [.list 239 q69 []]⟩
noncomputable def q0m.f (K : Nat) (a0 : List q32) : Option (List q32) := bif (0 + a0.length).ble 1000000 then some a0 else none
noncomputable def q0m.F (K : Nat) : q0m.sig.In → Option (List q32) := fun x => q0m.f K x.1
noncomputable def q0m.cv : q0m.sig.In → (List q32) → q0m.sig.Ou := fun x r => ((), (r, ()))
theorem q0m.rets (K : Nat) : ∀ x y, q3r (q0m.F K) q0m.cv x = some y → Rets M 189 q0m.sig x y := fun x y h =>
  q6v (M := M) (g := q0m.sig) (T := q69) (e := 239) (n := 8) (L := 1) (x := x.1) (args0 := x.1) (G := fun xs => bif (0 + xs.length).ble 1000000 then some (q0m.cv (xs, ()) xs) else none) (by kernel_rfl) Tryz.func189 (show Tryz.f189.body = some (.seq _ (.seq (.seq (.region _ #[⟨some 3, .move (.tmp 0), _, _, _, none⟩, ⟨some 4, .binOp .eql _ (.tmp 3) (.const (.slice none 0 0)) _, _, _, _, none⟩] false) _) _)) from rfl)
    (by kernel_rfl) rfl rfl (by kernel_rfl) (by decide) (by kernel_rfl) (by kernel_rfl) (by kernel_rfl) (by kernel_rfl) (by kernel_rfl) (by kernel_rfl) (Eq.trans (show (bif (0 + x.1.length).ble 1000000 then some (q0m.cv x x.1) else none) = (bif (0 + x.1.length).ble 1000000 then some x.1 else none).bind fun r => some (q0m.cv x r) by rw [q6z]; rfl) h) x.2
noncomputable def q0m.e (K : Nat) : En M := ⟨189, q0m.sig, _, q0m.F K, q0m.cv, by rfl, Tryz.f189, Tryz.func189, by kernel_rfl, rfl, q0m.rets K⟩
noncomputable def q0u.sig : Sig := ⟨(.ty (.slice yI)), [], (.ty (.slice yI)), []⟩
noncomputable def q0u.f (K : Nat) (a0 : List Int) : Option (List Int) := bif (0 + a0.length).ble 1000000 then some a0 else none
noncomputable def q0u.F (K : Nat) : q0u.sig.In → Option (List Int) := fun x => q0u.f K x.1
noncomputable def q0u.cv : q0u.sig.In → (List Int) → q0u.sig.Ou := fun x r => (r, ())
theorem q0u.rets (K : Nat) : ∀ x y, q3r (q0u.F K) q0u.cv x = some y → Rets M 117 q0u.sig x y := fun x y h =>
  q6v (M := M) (g := q0u.sig) (T := yI) (e := 3) (n := 8) (L := 1) (x := x.1) (args0 := x.1) (G := fun xs => bif (0 + xs.length).ble 1000000 then some (q0u.cv (xs, ()) xs) else none) (by kernel_rfl) Tryz.func117 (show Tryz.f117.body = some (.seq _ (.seq (.seq (.region _ #[⟨some 3, .move (.tmp 0), _, _, _, none⟩, ⟨some 4, .binOp .eql _ (.tmp 3) (.const (.slice none 0 0)) _, _, _, _, none⟩] false) _) _)) from rfl)
    (by kernel_rfl) rfl rfl (by kernel_rfl) (by decide) (by kernel_rfl) (by kernel_rfl) (by kernel_rfl) (by kernel_rfl) (by kernel_rfl) (by kernel_rfl) (Eq.trans (show (bif (0 + x.1.length).ble 1000000 then some (q0u.cv x x.1) else none) = (bif (0 + x.1.length).ble 1000000 then some x.1 else none).bind fun r => some (q0u.cv x r) by rw [q6z]; rfl) h) x.2
noncomputable def q0u.e (K : Nat) : En M := ⟨117, q0u.sig, _, q0u.F K, q0u.cv, by rfl, Tryz.f117, Tryz.func117, by kernel_rfl, rfl, q0u.rets K⟩
namespace z0t
noncomputable def X (K : Nat) : Fx M 0 := { hmx := mxd, nt := 47, cs := [q0k.e K, q0m.e K, q0u.e K], rf := [(11, ⟨[1, 2, 3, 4, 12, 13], (.cons (.ptr 0 0) (.cons (.ptr 1 0) (.cons (.ty yI) (.cons (.ty (.slice q69)) (.cons (.ty yI) (.ty yI)))))), hs5f⟩)] }
noncomputable def l1.f (K : Nat) : Nat → Int → Int → List q32 → Option (List q32)
  | 0, _, _, _ => none
  | k + 1, a3, a4, a11 => bif decide (a4 < a3) then bif decide ((0 : Int) ≤ a4) then bif a4.toNat.blt a11.length then a11[a4.toNat]?.bind fun t => (q0u.f K t.2.2.2.2.2).bind fun t => bif decide ((0 : Int) ≤ a4) then bif a4.toNat.blt a11.length then a11[a4.toNat]?.bind fun t_1 => l1.f K k a3 (IntKind.i64.wrap (a4 + (1 : Int))) (a11.set a4.toNat (t_1.1, t_1.2.1, t_1.2.2.1, t_1.2.2.2.1, t_1.2.2.2.2.1, t)) else none else none else none else none else some a11
noncomputable def l1.b (K : Nat) : Lp M 0 := q2d (X K) 7 47 2 (q0o Tryz.f135 1) ⟨[1, 2, 3, 4, 12, 13, 24, 25], (.cons (.ptr 0 0) (.cons (.ptr 1 0) (.cons (.ty yI) (.cons (.own 2) (.cons (.ty yI) (.cons (.ty yI) (.cons (.ty yI) (.ty yI)))))))), hs78⟩ ⟨[1, 2, 3, 4, 12, 13], (.cons (.ptr 0 0) (.cons (.ptr 1 0) (.cons (.ty yI) (.cons (.own 2) (.cons (.ty yI) (.ty yI)))))), hs78⟩ K [] (fun k x => l1.f K k x.1.2.2.2.2.2.2.1 x.1.2.2.2.2.2.2.2 x.2.2.2.1) (fun x r => (((), (), x.1.2.2.1, (), x.1.2.2.2.2.1, x.1.2.2.2.2.2.1), x.2.1, x.2.2.1, r, x.2.2.2.2)) fun k x => by
  rw [q0b, l1.f]
  try simp only [el]
  kernel_rfl
noncomputable def l0.f (K : Nat) : Nat → Int → Int → List q1k → Option (List q1k)
  | 0, _, _, _ => none
  | k + 1, a0, a1, a8 => bif decide (a1 < a0) then bif decide ((0 : Int) ≤ a1) then bif a1.toNat.blt a8.length then a8[a1.toNat]?.bind fun t => (q0m.f K t.1).bind fun t => (l1.f K K (↑t.length : Int) (0 : Int) t).bind fun t => bif decide ((0 : Int) ≤ a1) then bif a1.toNat.blt a8.length then a8[a1.toNat]?.bind fun t_1 => l0.f K k a0 (IntKind.i64.wrap (a1 + (1 : Int))) (a8.set a1.toNat (t, t_1.2.1, t_1.2.2.1, t_1.2.2.2.1, t_1.2.2.2.2)) else none else none else none else none else some a8
noncomputable def l0.b (K : Nat) : Lp M 0 := q2d (X K) 3 47 0 (q0o Tryz.f135 0) ⟨[1, 2, 12, 13], (.cons (.ptr 0 0) (.cons (.ptr 1 0) (.cons (.ty yI) (.ty yI)))), hs5f⟩ ⟨[1, 2], sh11, hs5f⟩ K [l1.b K] (fun k x => l0.f K k x.1.2.2.1 x.1.2.2.2 x.2.2.2.1) (fun x r => (((), ()), x.2.1, x.2.2.1, r, x.2.2.2.2)) fun k x => by
  rw [q0b, l0.f]
  try simp only [el]
  kernel_rfl
noncomputable def f (K : Nat) (a3 : List q1k) : Option (List q1k) := (q0k.f K a3).bind fun t => l0.f K K (↑t.length : Int) (0 : Int) t
noncomputable def e (K : Nat) : En M := fnE (X K) 135 Tryz.func135 ⟨sh59, [], sh59, []⟩ [l0.b K, l1.b K] (fun x => f K x.1.2.2.2) (fun x r => ((x.1.1, x.1.2.1, x.1.2.2.1, r), ())) fun x => by
  rw [q0b, f]
  try simp only [el]
  kernel_rfl
end z0t
namespace ir_Copy
noncomputable def X (K : Nat) : Fx M 0 := { hmx := mxd, nt := 29, cs := [q0n.e K, q0g.e K, z0t.e K] }
noncomputable def l0.f (K : Nat) : Nat → List q0t → Int → Int → List q0t → Option (List q0t)
  | 0, _, _, _, _ => none
  | k + 1, a0, a1, a2, a7 => bif decide (a2 < a1) then bif decide ((0 : Int) ≤ a2) && true then a0[a2.toNat]?.bind fun t => (z0t.f K t.2.2.2).bind fun t_1 => bif (a7.length + [(t.1, t.2.1, t.2.2.1, t_1)].length).ble (1000000 : Nat) then l0.f K k a0 a1 (IntKind.i64.wrap (a2 + (1 : Int))) (a7 ++ [(t.1, t.2.1, t.2.2.1, t_1)]) else none else none else some a7
noncomputable def l0.b (K : Nat) : Lp M 0 := q2d (X K) 3 29 0 (q0o Tryz.f80 0) ⟨[2, 3, 14, 15, 16], sh6b, hs61⟩ ⟨[2, 3], sh11, hs61⟩ K [] (fun k x => l0.f K k x.1.2.2.1 x.1.2.2.2.1 x.1.2.2.2.2 x.2.2.2.2.2.2.2.1) (fun x r => (((), ()), ((), (), ()), ((), (), ()), x.2.2.2.1, x.2.2.2.2.1, x.2.2.2.2.2.1, x.2.2.2.2.2.2.1, r, x.2.2.2.2.2.2.2.2)) fun k x => by
  rw [q0b, l0.f]
  try simp only [el]
  kernel_rfl
noncomputable def f (K : Nat) (a0 : List Int) (a1 : List q0t) (a2 : List q0h) : Option (List Int × List q0t × List q0h) := (q0n.f K a0).bind fun t => (q0g.f K a2).bind fun t_1 => (l0.f K K a1 (↑a1.length : Int) (0 : Int) []).bind fun t_2 => some (t, t_2, t_1)
noncomputable def e (K : Nat) : En M := fnE (X K) 80 Tryz.func80 ⟨sh0, [], sh0, []⟩ [l0.b K] (fun x => f K x.1.1 x.1.2.1 x.1.2.2) (fun x r => ((r.1, r.2.1, r.2.2), ())) fun x => by
  rw [q0b, f]
  try simp only [el]
  kernel_rfl
end ir_Copy
namespace z1n
noncomputable def X (K : Nat) : Fx M 0 := { hmx := mxd, nt := 29, cs := [q0n.e K, q0g.e K, z0t.e K] }
noncomputable def l0.f (K : Nat) : Nat → List q0t → Int → Int → List q0t → Option (List q0t)
  | 0, _, _, _, _ => none
  | k + 1, a0, a1, a2, a7 => bif decide (a2 < a1) then bif decide ((0 : Int) ≤ a2) && true then a0[a2.toNat]?.bind fun t => (z0t.f K t.2.2.2).bind fun t_1 => bif (a7.length + [(t.1, t.2.1, t.2.2.1, t_1)].length).ble (1000000 : Nat) then l0.f K k a0 a1 (IntKind.i64.wrap (a2 + (1 : Int))) (a7 ++ [(t.1, t.2.1, t.2.2.1, t_1)]) else none else none else some a7
noncomputable def l0.b (K : Nat) : Lp M 0 := q2d (X K) 3 29 0 (q0o Tryz.f80 0) ⟨[2, 3, 14, 15, 16], sh6b, hs61⟩ ⟨[2, 3], sh11, hs61⟩ K [] (fun k x => l0.f K k x.1.2.2.1 x.1.2.2.2.1 x.1.2.2.2.2 x.2.2.2.2.2.2.2.1) (fun x r => (((), ()), ((), (), ()), ((), (), ()), x.2.2.2.1, x.2.2.2.2.1, x.2.2.2.2.2.1, x.2.2.2.2.2.2.1, r, x.2.2.2.2.2.2.2.2)) fun k x => by
  rw [q0b, l0.f]
  try simp only [el]
  kernel_rfl
noncomputable def f (K : Nat) (a0 : List Int) (a1 : List q0t) (a2 : List q0h) : Option (List Int × List q0t × List q0h) := (q0n.f K a0).bind fun t => (q0g.f K a2).bind fun t_1 => (l0.f K K a1 (↑a1.length : Int) (0 : Int) []).bind fun t_2 => some (t, t_2, t_1)
noncomputable def e (K : Nat) : En M := fnE (X K) 80 Tryz.func80 ⟨sh0, [], (.agg (.cons (.own 0) (.cons (.own 1) (.own 2)))), [.list 2 yI [], .list 78 q30 [], .list 86 q2f []]⟩ [l0.b K] (fun x => f K x.1.1 x.1.2.1 x.1.2.2) (fun x r => (((), (), ()), r.1, r.2.1, r.2.2, ())) fun x => by
  rw [q0b, f]
  try simp only [el]
  kernel_rfl
end z1n
namespace z1j
noncomputable def f (K : Nat) (a0 : Int) (a1 : Int) : Option (Int × Bool) := (q4r.f K a0).bind fun t => bif !t.1 then some ((0 : Int), false) else some (a1, true)
noncomputable def e (K : Nat) : En M := fnE (m := 0) { hmx := mxd, nt := 16, cs := [q4r.e K] } 136 Tryz.func136 ⟨sh58, [], sh79, []⟩ [] (fun x => f K x.1.1 x.1.2.1) (fun x r => ((r.1, r.2), ())) fun x => by
  rw [q0b, f]
  try simp only [el]
  kernel_rfl
end z1j
namespace z71
noncomputable def X (K : Nat) : Fx M 1 := { hmx := mxd, nt := 95, cs := [z1j.e K], rf := [(21, ⟨[3, 4, 7, 10, 20, 21, 22, 41, 42, 43], sh7a, [.list 2 yI [], .cells 267 0 (.cons (.ty (.slice q30)) (.cons (.own 4) (.own 5))), .list 270 z0m [], .cells 270 0 (.cons (.ty (.slice q69)) (.cons (.ty (.slice yI)) (.cons (.ty yI) (.cons (.ty yI) (.cons (.ty yI) (.ty yI)))))), .list 268 (.slice z0m) [], .list 3 yI []]⟩)] }
noncomputable def l2.f (K : Nat) : Nat → Int → List q32 → Int → Int → List Int → Option (Int × List Int)
  | 0, _, _, _, _, _ => none
  | k + 1, a0, a7, a8, a9, a20 => bif decide (a9 < a8) then bif decide ((0 : Int) ≤ a9) && true then a7[a9.toNat]?.bind fun t => (z1j.f K t.1 t.2.1).bind fun t => bif t.2 then bif decide ((0 : Int) ≤ a9) then bif a9.toNat.blt a20.length then a20[a9.toNat]?.bind fun t => l2.f K k (IntKind.i64.wrap (a0 + (1 : Int))) a7 a8 (IntKind.i64.wrap (a9 + (1 : Int))) (a20.set a9.toNat a0) else none else none else l2.f K k a0 a7 a8 (IntKind.i64.wrap (a9 + (1 : Int))) a20 else none else some (a0, a20)
noncomputable def l2.b (K : Nat) : Lp M 1 := q2d (X K) 14 95 4 (q0o Tryz.f81 2) ⟨[3, 4, 7, 10, 20, 21, 22, 41, 42, 43, 57, 58, 59], (.cons (.ptr 1 0) (.cons (.ty yI) (.cons (.own 2) (.cons (.ptr 3 0) (.cons (.ty (.slice q30)) (.cons (.ty yI) (.cons (.ty yI) (.cons (.ty (.slice q3f)) (.cons (.ty yI) (.cons (.ty yI) (.cons (.ty (.slice q69)) (.cons (.ty yI) (.ty yI))))))))))))), hs7b⟩ ⟨[3, 4, 7, 10, 20, 21, 22, 41, 42, 43], sh7a, hs7b⟩ K [] (fun k x => l2.f K k x.1.2.1 x.1.2.2.2.2.2.2.2.2.2.2.1 x.1.2.2.2.2.2.2.2.2.2.2.2.1 x.1.2.2.2.2.2.2.2.2.2.2.2.2 x.2.2.2.2.2.2.2.1) (fun x r => (((), r.1, (), (), x.1.2.2.2.2.1, x.1.2.2.2.2.2.1, x.1.2.2.2.2.2.2.1, x.1.2.2.2.2.2.2.2.1, x.1.2.2.2.2.2.2.2.2.1, x.1.2.2.2.2.2.2.2.2.2.1), x.2.1, x.2.2.1, x.2.2.2.1, x.2.2.2.2.1, x.2.2.2.2.2.1, x.2.2.2.2.2.2.1, r.2, ())) fun k x => by
  rw [q0b, l2.f]
  try simp only [el]
  kernel_rfl
noncomputable def l1.f (K : Nat) : Nat → Int → List q1k → Int → Int → List z9u → Option (Int × List z9u)
  | 0, _, _, _, _, _ => none
  | k + 1, a0, a4, a5, a6, a9 => bif decide (a6 < a5) then bif decide ((0 : Int) ≤ a6) && true then a4[a6.toNat]?.bind fun t => bif decide ((↑(List.length t.1) : Int) ≤ (1000000 : Int)) && (↑(List.length t.1) : Int) == (↑(List.length t.1) : Int) && true && true && true then (l2.f K K a0 t.1 (↑(List.length t.1) : Int) (0 : Int) (List.replicate (↑(List.length t.1) : Int).toNat (0 : Int))).bind fun t_1 => bif (a9.length + [(t.1, t_1.2, t.2.1, t.2.2.1, t.2.2.2.1, t.2.2.2.2)].length).ble (1000000 : Nat) then l1.f K k t_1.1 a4 a5 (IntKind.i64.wrap (a6 + (1 : Int))) (a9 ++ [(t.1, t_1.2, t.2.1, t.2.2.1, t.2.2.2.1, t.2.2.2.2)]) else none else none else none else some (a0, a9)
noncomputable def l1.b (K : Nat) : Lp M 1 := q2d (X K) 10 95 2 (q0o Tryz.f81 1) ⟨[3, 4, 7, 20, 21, 22, 41, 42, 43], (.cons (.ptr 1 0) (.cons (.ty yI) (.cons (.own 2) (.cons (.ty (.slice q30)) (.cons (.ty yI) (.cons (.ty yI) (.cons (.ty (.slice q3f)) (.cons (.ty yI) (.ty yI))))))))), hs7c⟩ ⟨[3, 4, 7, 20, 21, 22], (.cons (.ptr 1 0) (.cons (.ty yI) (.cons (.own 2) (.cons (.ty (.slice q30)) (.cons (.ty yI) (.ty yI)))))), hs7c⟩ K [l2.b K] (fun k x => l1.f K k x.1.2.1 x.1.2.2.2.2.2.2.1 x.1.2.2.2.2.2.2.2.1 x.1.2.2.2.2.2.2.2.2 x.2.2.2.1) (fun x r => (((), r.1, (), x.1.2.2.2.1, x.1.2.2.2.2.1, x.1.2.2.2.2.2.1), x.2.1, x.2.2.1, r.2, x.2.2.2.2)) fun k x => by
  rw [q0b, l1.f]
  try simp only [el]
  kernel_rfl
noncomputable def l0.f (K : Nat) : Nat → Int → List q0t → Int → Int → List (List z9u) → List Int → Option (List (List z9u) × List Int)
  | 0, _, _, _, _, _, _ => none
  | k + 1, a0, a1, a2, a3, a6, a7 => bif decide (a3 < a2) then bif decide ((0 : Int) ≤ a3) && true then a1[a3.toNat]?.bind fun t => bif (a7.length + [a0].length).ble (1000000 : Nat) then (l1.f K K (IntKind.i64.wrap (a0 + t.2.2.1)) t.2.2.2 (↑(List.length t.2.2.2) : Int) (0 : Int) []).bind fun t => bif (a6.length + [t.2].length).ble (1000000 : Nat) then l0.f K k t.1 a1 a2 (IntKind.i64.wrap (a3 + (1 : Int))) (a6 ++ [t.2]) (a7 ++ [a0]) else none else none else none else some (a6, a7)
noncomputable def l0.b (K : Nat) : Lp M 1 := q2d (X K) 4 95 0 (q0o Tryz.f81 0) ⟨[3, 4, 20, 21, 22], (.cons (.ptr 1 0) (.cons (.ty yI) (.cons (.ty (.slice q30)) (.cons (.ty yI) (.ty yI))))), hs7d⟩ ⟨[3], (.ptr 1 0), hs7d⟩ K [l1.b K, l2.b K] (fun k x => l0.f K k x.1.2.1 x.1.2.2.1 x.1.2.2.2.1 x.1.2.2.2.2 x.2.2.2.1 x.2.2.2.2.1) (fun x r => ((), x.2.1, x.2.2.1, r.1, r.2, ())) fun k x => by
  rw [q0b, l0.f]
  try simp only [el]
  kernel_rfl
noncomputable def f (K : Nat) (a0 : List q0t) : Option (Option q64) := (l0.f K K (0 : Int) a0 (↑a0.length : Int) (0 : Int) [] []).bind fun t => some (some (a0, t.1, t.2))
noncomputable def e (K : Nat) : En M := fnE (X K) 81 Tryz.func81 ⟨(.agg (.cons (.own 0) (.cons (.ty (.slice q30)) (.ty (.slice q2f))))), [.list 2 yI []], (.ty (.ptr z02)), [.list 2 yI []]⟩ [l0.b K, l1.b K, l2.b K] (fun x => f K x.1.2.1) (fun x r => (r, x.2)) fun x => by
  rw [q0b, f]
  try simp only [el]
  kernel_rfl
end z71
namespace q50
noncomputable def X (K : Nat) : Fx M 0 := { hmx := mxd, nt := 46, cs := [] }
noncomputable def l0.f (K : Nat) : Nat → Option q64 → Int → Int → Int → List Int → Option (List Int)
  | 0, _, _, _, _, _ => none
  | k + 1, a0, a1, a2, a3, a13 => bif decide (a3 < a2) then a0.bind fun t => bif decide ((0 : Int) ≤ a1) && true then t.2.2[a1.toNat]?.bind fun t => bif (a13.length + [IntKind.i64.wrap (t + a3)].length).ble (1000000 : Nat) then l0.f K k a0 a1 a2 (IntKind.i64.wrap (a3 + (1 : Int))) (a13 ++ [IntKind.i64.wrap (t + a3)]) else none else none else some a13
noncomputable def l0.b (K : Nat) : Lp M 0 := q2d (X K) 4 46 0 (q0o Tryz.f83 0) ⟨[0, 1, 6, 7, 26, 27], (.cons (.ty (.ptr z02)) (.cons (.ty yI) (.cons (.ptr 0 0) (.cons (.ptr 1 0) (.cons (.ty yI) (.ty yI)))))), hs7e⟩ ⟨[6, 7], sh11, hs7e⟩ K [] (fun k x => l0.f K k x.1.1 x.1.2.1 x.1.2.2.2.2.1 x.1.2.2.2.2.2 x.2.2.2.2.2.2.1) (fun x r => (((), ()), x.2.1, x.2.2.1, x.2.2.2.1, x.2.2.2.2.1, x.2.2.2.2.2.1, r, ())) fun k x => by
  rw [q0b, l0.f]
  try simp only [el]
  kernel_rfl
noncomputable def f (K : Nat) (a0 : Option q64) (a1 : Int) (a2 : List Int) : Option (Int × Int × List Int × List Int) := a0.bind fun t => bif decide ((0 : Int) ≤ a1) && true then t.1[a1.toNat]?.bind fun t => bif decide ((0 : Int) ≤ t.2.2.1) && decide (t.2.2.1 ≤ (1000000 : Int)) && t.2.2.1 == t.2.2.1 && true && true && true then (l0.f K K a0 a1 (↑(List.take (List.replicate (Int.toNat t.2.2.1) (0 : Int)).length a2 ++ List.drop a2.length (List.replicate (Int.toNat t.2.2.1) (0 : Int))).length : Int) (0 : Int) []).bind fun t_1 => some ((0 : Int), (0 : Int), List.take (List.replicate (Int.toNat t.2.2.1) (0 : Int)).length a2 ++ List.drop a2.length (List.replicate (Int.toNat t.2.2.1) (0 : Int)), t_1) else none else none
noncomputable def e (K : Nat) : En M := fnE (X K) 83 Tryz.func83 ⟨(.cons (.ty (.ptr z02)) (.cons (.ty yI) (.ty (.slice yI)))), [], (.agg (.cons (.ty yI) (.cons (.ty yI) (.cons (.ty yI) (.cons (.own 0) (.own 1)))))), [.list 2 yI [], .list 3 yI []]⟩ [l0.b K] (fun x => f K x.1.1 x.1.2.1 x.1.2.2) (fun x r => ((x.1.2.1, r.1, r.2.1, (), ()), r.2.2.1, r.2.2.2, ())) fun x => by
  rw [q0b, f]
  try simp only [el]
  kernel_rfl
end q50
end
end Go.Proofs.YtdjkdmjdcdljmaaGreatDoor.AF
