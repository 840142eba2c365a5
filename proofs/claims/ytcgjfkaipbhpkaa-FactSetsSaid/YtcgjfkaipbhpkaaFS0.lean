/- Written by a program of this session: what Go functions come to, as plain functions, each shown by our small machine. No condition. -/
import Derived.Test.YtcgjfkaipbhpkaaProg
import Derived.Test.YtcgjfkaipbhpkaaVxI
namespace Go.Proofs.Ytcgjfkaipbhpkaa.FS
open Go.Proofs.YtcgjfkaipbhpkaaX
set_option linter.unusedVariables false
set_option linter.unusedSimpArgs false
/-! ### avermentlaw09_To: function 33 -/
def avermentlaw09_To.f (a0_0 : Bool) (a0_1 : Int) : Option (Bool × Int) := some (a0_0, a0_1)
def avermentlaw09_To.C : CallsBy := noCalls
theorem avermentlaw09_To.C_ok : CallsOk Try.prog avermentlaw09_To.C := noCalls_ok
set_option maxRecDepth 1000000 in
set_option maxHeartbeats 4000000 in
theorem avermentlaw09_To.eq (a0_0 : Bool) (a0_1 : Int) : runF Try.prog avermentlaw09_To.C (eqBy Try.prog) 20 Try.f33 [.agg #[.bool a0_0, .int .i64 a0_1]] = (avermentlaw09_To.f a0_0 a0_1).bind fun t => some (.agg #[.bool t.1, .int .i64 t.2]) := by
  unfold avermentlaw09_To.f
  simp only [cond_bind, Option.bind_assoc, some_bind, Option.bind_none]
  kernel_rfl
theorem avermentlaw09_To.rets (a0_0 : Bool) (a0_1 : Int) : ∀ t, avermentlaw09_To.f a0_0 a0_1 = some t → Rets Try.prog 33 [.agg #[.bool a0_0, .int .i64 a0_1]] (.agg #[.bool t.1, .int .i64 t.2]) := rets_of avermentlaw09_To.C_ok (by kernel_rfl) Try.func33 (by simp [flatB, aggB, leafB]) (avermentlaw09_To.eq a0_0 a0_1)
/-! ### avermentlaw10_To: function 34 -/
def avermentlaw10_To.f (a0_0 : Int) (a0_1 : Int) : Option (Int × Int) := some (a0_0, a0_1)
def avermentlaw10_To.C : CallsBy := noCalls
theorem avermentlaw10_To.C_ok : CallsOk Try.prog avermentlaw10_To.C := noCalls_ok
set_option maxRecDepth 1000000 in
set_option maxHeartbeats 4000000 in
theorem avermentlaw10_To.eq (a0_0 : Int) (a0_1 : Int) : runF Try.prog avermentlaw10_To.C (eqBy Try.prog) 20 Try.f34 [.agg #[.int .i64 a0_0, .int .i64 a0_1]] = (avermentlaw10_To.f a0_0 a0_1).bind fun t => some (.agg #[.int .i64 t.1, .int .i64 t.2]) := by
  unfold avermentlaw10_To.f
  simp only [cond_bind, Option.bind_assoc, some_bind, Option.bind_none]
  kernel_rfl
theorem avermentlaw10_To.rets (a0_0 : Int) (a0_1 : Int) : ∀ t, avermentlaw10_To.f a0_0 a0_1 = some t → Rets Try.prog 34 [.agg #[.int .i64 a0_0, .int .i64 a0_1]] (.agg #[.int .i64 t.1, .int .i64 t.2]) := rets_of avermentlaw10_To.C_ok (by kernel_rfl) Try.func34 (by simp [flatB, aggB, leafB]) (avermentlaw10_To.eq a0_0 a0_1)
/-! ### avermentlaw12_To: function 8 -/
def avermentlaw12_To.f (a0_0 : Int) (a0_1 : Bool) (a0_2 : Int) (a0_3 : Int) (a0_4 : Int) (a0_5 : Int) : Option (Int × Bool × Int × Int × Int × Int) := (avermentlaw09_To.f a0_1 a0_2).bind fun t => (avermentlaw10_To.f a0_3 a0_4).bind fun t_1 => some (a0_0, t.fst, t.snd, t_1.fst, t_1.snd, a0_5)
def avermentlaw12_To.C : CallsBy := entry 33 [.agg [.b, .i .i64]] (fun k (a0_0 : Bool) (a0_1 : Int) => (avermentlaw09_To.f a0_0 a0_1).bind fun t => k (.agg #[.bool t.1, .int .i64 t.2])) (entry 34 [.agg [.i .i64, .i .i64]] (fun k (a0_0 : Int) (a0_1 : Int) => (avermentlaw10_To.f a0_0 a0_1).bind fun t => k (.agg #[.int .i64 t.1, .int .i64 t.2])) (noCalls))
theorem avermentlaw12_To.C_ok : CallsOk Try.prog avermentlaw12_To.C := entry_ok (entry_ok (noCalls_ok) Try.func34 (by kernel_rfl) rfl (fun k a0_0 a0_1 => bind_rets (fun t ht => avermentlaw10_To.rets a0_0 a0_1 t ht) k)) Try.func33 (by kernel_rfl) rfl (fun k a0_0 a0_1 => bind_rets (fun t ht => avermentlaw09_To.rets a0_0 a0_1 t ht) k)
set_option maxRecDepth 1000000 in
set_option maxHeartbeats 4000000 in
theorem avermentlaw12_To.eq (a0_0 : Int) (a0_1 : Bool) (a0_2 : Int) (a0_3 : Int) (a0_4 : Int) (a0_5 : Int) : runF Try.prog avermentlaw12_To.C (eqBy Try.prog) 20 Try.f8 [.agg #[.int .i64 a0_0, .bool a0_1, .int .i64 a0_2, .int .i64 a0_3, .int .i64 a0_4, .int .i64 a0_5]] = (avermentlaw12_To.f a0_0 a0_1 a0_2 a0_3 a0_4 a0_5).bind fun t => some (.agg #[.int .i64 t.1, .bool t.2.1, .int .i64 t.2.2.1, .int .i64 t.2.2.2.1, .int .i64 t.2.2.2.2.1, .int .i64 t.2.2.2.2.2]) := by
  unfold avermentlaw12_To.f
  simp only [cond_bind, Option.bind_assoc, some_bind, Option.bind_none]
  kernel_rfl
theorem avermentlaw12_To.rets (a0_0 : Int) (a0_1 : Bool) (a0_2 : Int) (a0_3 : Int) (a0_4 : Int) (a0_5 : Int) : ∀ t, avermentlaw12_To.f a0_0 a0_1 a0_2 a0_3 a0_4 a0_5 = some t → Rets Try.prog 8 [.agg #[.int .i64 a0_0, .bool a0_1, .int .i64 a0_2, .int .i64 a0_3, .int .i64 a0_4, .int .i64 a0_5]] (.agg #[.int .i64 t.1, .bool t.2.1, .int .i64 t.2.2.1, .int .i64 t.2.2.2.1, .int .i64 t.2.2.2.2.1, .int .i64 t.2.2.2.2.2]) := rets_of avermentlaw12_To.C_ok (by kernel_rfl) Try.func8 (by simp [flatB, aggB, leafB]) (avermentlaw12_To.eq a0_0 a0_1 a0_2 a0_3 a0_4 a0_5)
/-! ### sign_Right: function 51 -/
def sign_Right.f (a0 : Int) : Option (Bool) := bif decide (a0 ≥ 1) then some (decide (a0 ≤ 7)) else some false
def sign_Right.C : CallsBy := noCalls
theorem sign_Right.C_ok : CallsOk Try.prog sign_Right.C := noCalls_ok
set_option maxRecDepth 1000000 in
set_option maxHeartbeats 4000000 in
theorem sign_Right.eq (a0 : Int) : runF Try.prog sign_Right.C (eqBy Try.prog) 20 Try.f51 [.int .i64 a0] = (sign_Right.f a0).bind fun t => some (.bool t) := by
  unfold sign_Right.f
  simp only [cond_bind, Option.bind_assoc, some_bind, Option.bind_none]
  kernel_rfl
theorem sign_Right.rets (a0 : Int) : ∀ t, sign_Right.f a0 = some t → Rets Try.prog 51 [.int .i64 a0] (.bool t) := rets_of sign_Right.C_ok (by kernel_rfl) Try.func51 (by simp [flatB, aggB, leafB]) (sign_Right.eq a0)
/-! ### known_Known_tidy: function 95 -/
def known_Known_tidy.f (a0_0 : Bool) (a0_1 : Int) : Option (Bool × Int) := bif !a0_0 then some (a0_0, 0) else some (a0_0, a0_1)
def known_Known_tidy.C : CallsBy := noCalls
theorem known_Known_tidy.C_ok : CallsOk Try.prog known_Known_tidy.C := noCalls_ok
set_option maxRecDepth 1000000 in
set_option maxHeartbeats 4000000 in
theorem known_Known_tidy.eq (a0_0 : Bool) (a0_1 : Int) : runF Try.prog known_Known_tidy.C (eqBy Try.prog) 20 Try.f95 [.agg #[.bool a0_0, .int .i64 a0_1]] = (known_Known_tidy.f a0_0 a0_1).bind fun t => some (.agg #[.bool t.1, .int .i64 t.2]) := by
  unfold known_Known_tidy.f
  simp only [cond_bind, Option.bind_assoc, some_bind, Option.bind_none]
  kernel_rfl
theorem known_Known_tidy.rets (a0_0 : Bool) (a0_1 : Int) : ∀ t, known_Known_tidy.f a0_0 a0_1 = some t → Rets Try.prog 95 [.agg #[.bool a0_0, .int .i64 a0_1]] (.agg #[.bool t.1, .int .i64 t.2]) := rets_of known_Known_tidy.C_ok (by kernel_rfl) Try.func95 (by simp [flatB, aggB, leafB]) (known_Known_tidy.eq a0_0 a0_1)
/-! ### known_Right: function 52 -/
def known_Right.f (a0_0 : Bool) (a0_1 : Int) : Option (Bool) := (known_Known_tidy.f a0_0 a0_1).bind fun t => some (a0_0 == t.fst && a0_1 == t.snd)
def known_Right.C : CallsBy := entry 95 [.agg [.b, .i .i64]] (fun k (a0_0 : Bool) (a0_1 : Int) => (known_Known_tidy.f a0_0 a0_1).bind fun t => k (.agg #[.bool t.1, .int .i64 t.2])) (noCalls)
theorem known_Right.C_ok : CallsOk Try.prog known_Right.C := entry_ok (noCalls_ok) Try.func95 (by kernel_rfl) rfl (fun k a0_0 a0_1 => bind_rets (fun t ht => known_Known_tidy.rets a0_0 a0_1 t ht) k)
set_option maxRecDepth 1000000 in
set_option maxHeartbeats 4000000 in
theorem known_Right.eq (a0_0 : Bool) (a0_1 : Int) : runF Try.prog known_Right.C (eqBy Try.prog) 20 Try.f52 [.agg #[.bool a0_0, .int .i64 a0_1]] = (known_Right.f a0_0 a0_1).bind fun t => some (.bool t) := by
  unfold known_Right.f
  simp only [cond_bind, Option.bind_assoc, some_bind, Option.bind_none]
  kernel_rfl
theorem known_Right.rets (a0_0 : Bool) (a0_1 : Int) : ∀ t, known_Right.f a0_0 a0_1 = some t → Rets Try.prog 52 [.agg #[.bool a0_0, .int .i64 a0_1]] (.bool t) := rets_of known_Right.C_ok (by kernel_rfl) Try.func52 (by simp [flatB, aggB, leafB]) (known_Right.eq a0_0 a0_1)
/-! ### span_Right: function 53 -/
def span_Right.f (a0_0 : Int) (a0_1 : Int) : Option (Bool) := some (decide (a0_0 ≤ a0_1))
def span_Right.C : CallsBy := noCalls
theorem span_Right.C_ok : CallsOk Try.prog span_Right.C := noCalls_ok
set_option maxRecDepth 1000000 in
set_option maxHeartbeats 4000000 in
theorem span_Right.eq (a0_0 : Int) (a0_1 : Int) : runF Try.prog span_Right.C (eqBy Try.prog) 20 Try.f53 [.agg #[.int .i64 a0_0, .int .i64 a0_1]] = (span_Right.f a0_0 a0_1).bind fun t => some (.bool t) := by
  unfold span_Right.f
  simp only [cond_bind, Option.bind_assoc, some_bind, Option.bind_none]
  kernel_rfl
theorem span_Right.rets (a0_0 : Int) (a0_1 : Int) : ∀ t, span_Right.f a0_0 a0_1 = some t → Rets Try.prog 53 [.agg #[.int .i64 a0_0, .int .i64 a0_1]] (.bool t) := rets_of span_Right.C_ok (by kernel_rfl) Try.func53 (by simp [flatB, aggB, leafB]) (span_Right.eq a0_0 a0_1)
/-! ### parity_Right: function 54 -/
def parity_Right.f (a0 : Int) : Option (Bool) := bif decide (a0 ≥ 1) then some (decide (a0 ≤ 3)) else some false
def parity_Right.C : CallsBy := noCalls
theorem parity_Right.C_ok : CallsOk Try.prog parity_Right.C := noCalls_ok
set_option maxRecDepth 1000000 in
set_option maxHeartbeats 4000000 in
theorem parity_Right.eq (a0 : Int) : runF Try.prog parity_Right.C (eqBy Try.prog) 20 Try.f54 [.int .i64 a0] = (parity_Right.f a0).bind fun t => some (.bool t) := by
  unfold parity_Right.f
  simp only [cond_bind, Option.bind_assoc, some_bind, Option.bind_none]
  kernel_rfl
theorem parity_Right.rets (a0 : Int) : ∀ t, parity_Right.f a0 = some t → Rets Try.prog 54 [.int .i64 a0] (.bool t) := rets_of parity_Right.C_ok (by kernel_rfl) Try.func54 (by simp [flatB, aggB, leafB]) (parity_Right.eq a0)
/-! ### fact_Right: function 15 -/
def fact_Right.f (a0_0 : Int) (a0_1 : Bool) (a0_2 : Int) (a0_3 : Int) (a0_4 : Int) (a0_5 : Int) : Option (Bool) := (sign_Right.f a0_0).bind fun t => bif t then (known_Right.f a0_1 a0_2).bind fun t => bif t then (span_Right.f a0_3 a0_4).bind fun t => bif t then (parity_Right.f a0_5).bind fun t => some t else some false else some false else some false
def fact_Right.C : CallsBy := entry 51 [.one (.i .i64)] (fun k (a0 : Int) => (sign_Right.f a0).bind fun t => k (.bool t)) (entry 52 [.agg [.b, .i .i64]] (fun k (a0_0 : Bool) (a0_1 : Int) => (known_Right.f a0_0 a0_1).bind fun t => k (.bool t)) (entry 53 [.agg [.i .i64, .i .i64]] (fun k (a0_0 : Int) (a0_1 : Int) => (span_Right.f a0_0 a0_1).bind fun t => k (.bool t)) (entry 54 [.one (.i .i64)] (fun k (a0 : Int) => (parity_Right.f a0).bind fun t => k (.bool t)) (noCalls))))
theorem fact_Right.C_ok : CallsOk Try.prog fact_Right.C := entry_ok (entry_ok (entry_ok (entry_ok (noCalls_ok) Try.func54 (by kernel_rfl) rfl (fun k a0 => bind_rets (fun t ht => parity_Right.rets a0 t ht) k)) Try.func53 (by kernel_rfl) rfl (fun k a0_0 a0_1 => bind_rets (fun t ht => span_Right.rets a0_0 a0_1 t ht) k)) Try.func52 (by kernel_rfl) rfl (fun k a0_0 a0_1 => bind_rets (fun t ht => known_Right.rets a0_0 a0_1 t ht) k)) Try.func51 (by kernel_rfl) rfl (fun k a0 => bind_rets (fun t ht => sign_Right.rets a0 t ht) k)
set_option maxRecDepth 1000000 in
set_option maxHeartbeats 4000000 in
theorem fact_Right.eq (a0_0 : Int) (a0_1 : Bool) (a0_2 : Int) (a0_3 : Int) (a0_4 : Int) (a0_5 : Int) : runF Try.prog fact_Right.C (eqBy Try.prog) 20 Try.f15 [.agg #[.int .i64 a0_0, .bool a0_1, .int .i64 a0_2, .int .i64 a0_3, .int .i64 a0_4, .int .i64 a0_5]] = (fact_Right.f a0_0 a0_1 a0_2 a0_3 a0_4 a0_5).bind fun t => some (.bool t) := by
  unfold fact_Right.f
  simp only [cond_bind, Option.bind_assoc, some_bind, Option.bind_none]
  kernel_rfl
theorem fact_Right.rets (a0_0 : Int) (a0_1 : Bool) (a0_2 : Int) (a0_3 : Int) (a0_4 : Int) (a0_5 : Int) : ∀ t, fact_Right.f a0_0 a0_1 a0_2 a0_3 a0_4 a0_5 = some t → Rets Try.prog 15 [.agg #[.int .i64 a0_0, .bool a0_1, .int .i64 a0_2, .int .i64 a0_3, .int .i64 a0_4, .int .i64 a0_5]] (.bool t) := rets_of fact_Right.C_ok (by kernel_rfl) Try.func15 (by simp [flatB, aggB, leafB]) (fact_Right.eq a0_0 a0_1 a0_2 a0_3 a0_4 a0_5)
/-! ### avermentref12_Right: function 16 -/
def avermentref12_Right.f (a0_0 : Int) (a0_1 : Bool) (a0_2 : Int) (a0_3 : Int) (a0_4 : Int) (a0_5 : Int) : Option (Bool) := bif decide (a0_0 ≥ 1) then bif decide (a0_0 ≤ 7) then bif a0_1 then bif decide (a0_3 ≤ a0_4) then bif decide (a0_5 ≥ 1) then some (decide (a0_5 ≤ 3)) else some false else some false else bif a0_2 == 0 then bif decide (a0_3 ≤ a0_4) then bif decide (a0_5 ≥ 1) then some (decide (a0_5 ≤ 3)) else some false else some false else some false else some false else some false
def avermentref12_Right.C : CallsBy := noCalls
theorem avermentref12_Right.C_ok : CallsOk Try.prog avermentref12_Right.C := noCalls_ok
set_option maxRecDepth 1000000 in
set_option maxHeartbeats 4000000 in
theorem avermentref12_Right.eq (a0_0 : Int) (a0_1 : Bool) (a0_2 : Int) (a0_3 : Int) (a0_4 : Int) (a0_5 : Int) : runF Try.prog avermentref12_Right.C (eqBy Try.prog) 20 Try.f16 [.agg #[.int .i64 a0_0, .bool a0_1, .int .i64 a0_2, .int .i64 a0_3, .int .i64 a0_4, .int .i64 a0_5]] = (avermentref12_Right.f a0_0 a0_1 a0_2 a0_3 a0_4 a0_5).bind fun t => some (.bool t) := by
  unfold avermentref12_Right.f
  simp only [cond_bind, Option.bind_assoc, some_bind, Option.bind_none]
  kernel_rfl
theorem avermentref12_Right.rets (a0_0 : Int) (a0_1 : Bool) (a0_2 : Int) (a0_3 : Int) (a0_4 : Int) (a0_5 : Int) : ∀ t, avermentref12_Right.f a0_0 a0_1 a0_2 a0_3 a0_4 a0_5 = some t → Rets Try.prog 16 [.agg #[.int .i64 a0_0, .bool a0_1, .int .i64 a0_2, .int .i64 a0_3, .int .i64 a0_4, .int .i64 a0_5]] (.bool t) := rets_of avermentref12_Right.C_ok (by kernel_rfl) Try.func16 (by simp [flatB, aggB, leafB]) (avermentref12_Right.eq a0_0 a0_1 a0_2 a0_3 a0_4 a0_5)
/-! ### avermentref09_Clean: function 35 -/
def avermentref09_Clean.f (a0_0 : Bool) (a0_1 : Int) : Option (Bool × Int) := bif !a0_0 then some (false, 0) else some (a0_0, a0_1)
def avermentref09_Clean.C : CallsBy := noCalls
theorem avermentref09_Clean.C_ok : CallsOk Try.prog avermentref09_Clean.C := noCalls_ok
set_option maxRecDepth 1000000 in
set_option maxHeartbeats 4000000 in
theorem avermentref09_Clean.eq (a0_0 : Bool) (a0_1 : Int) : runF Try.prog avermentref09_Clean.C (eqBy Try.prog) 20 Try.f35 [.agg #[.bool a0_0, .int .i64 a0_1]] = (avermentref09_Clean.f a0_0 a0_1).bind fun t => some (.agg #[.bool t.1, .int .i64 t.2]) := by
  unfold avermentref09_Clean.f
  simp only [cond_bind, Option.bind_assoc, some_bind, Option.bind_none]
  kernel_rfl
theorem avermentref09_Clean.rets (a0_0 : Bool) (a0_1 : Int) : ∀ t, avermentref09_Clean.f a0_0 a0_1 = some t → Rets Try.prog 35 [.agg #[.bool a0_0, .int .i64 a0_1]] (.agg #[.bool t.1, .int .i64 t.2]) := rets_of avermentref09_Clean.C_ok (by kernel_rfl) Try.func35 (by simp [flatB, aggB, leafB]) (avermentref09_Clean.eq a0_0 a0_1)
/-! ### avermentref10_Fix: function 36 -/
def avermentref10_Fix.f (a0_0 : Int) (a0_1 : Int) : Option (Int × Int) := bif decide (a0_0 > a0_1) then some (a0_1, a0_0) else some (a0_0, a0_1)
def avermentref10_Fix.C : CallsBy := noCalls
theorem avermentref10_Fix.C_ok : CallsOk Try.prog avermentref10_Fix.C := noCalls_ok
set_option maxRecDepth 1000000 in
set_option maxHeartbeats 4000000 in
theorem avermentref10_Fix.eq (a0_0 : Int) (a0_1 : Int) : runF Try.prog avermentref10_Fix.C (eqBy Try.prog) 20 Try.f36 [.agg #[.int .i64 a0_0, .int .i64 a0_1]] = (avermentref10_Fix.f a0_0 a0_1).bind fun t => some (.agg #[.int .i64 t.1, .int .i64 t.2]) := by
  unfold avermentref10_Fix.f
  simp only [cond_bind, Option.bind_assoc, some_bind, Option.bind_none]
  kernel_rfl
theorem avermentref10_Fix.rets (a0_0 : Int) (a0_1 : Int) : ∀ t, avermentref10_Fix.f a0_0 a0_1 = some t → Rets Try.prog 36 [.agg #[.int .i64 a0_0, .int .i64 a0_1]] (.agg #[.int .i64 t.1, .int .i64 t.2]) := rets_of avermentref10_Fix.C_ok (by kernel_rfl) Try.func36 (by simp [flatB, aggB, leafB]) (avermentref10_Fix.eq a0_0 a0_1)
/-! ### avermentref12_Fix: function 9 -/
def avermentref12_Fix.f (a0_0 : Int) (a0_1 : Bool) (a0_2 : Int) (a0_3 : Int) (a0_4 : Int) (a0_5 : Int) : Option (Int × Bool × Int × Int × Int × Int) := bif IntKind.i64.wrap ↑(BitVec.ofInt IntKind.i64.bits a0_0 &&& BitVec.ofInt IntKind.i64.bits 7).toNat == 0 then bif IntKind.i64.wrap ↑(BitVec.ofInt IntKind.i64.bits a0_5 &&& BitVec.ofInt IntKind.i64.bits 3).toNat == 0 then (avermentref09_Clean.f a0_1 a0_2).bind fun t => (avermentref10_Fix.f a0_3 a0_4).bind fun t_1 => some (7, t.fst, t.snd, t_1.fst, t_1.snd, 3) else (avermentref09_Clean.f a0_1 a0_2).bind fun t => (avermentref10_Fix.f a0_3 a0_4).bind fun t_1 => some (7, t.fst, t.snd, t_1.fst, t_1.snd, IntKind.i64.wrap ↑(BitVec.ofInt IntKind.i64.bits a0_5 &&& BitVec.ofInt IntKind.i64.bits 3).toNat) else bif IntKind.i64.wrap ↑(BitVec.ofInt IntKind.i64.bits a0_5 &&& BitVec.ofInt IntKind.i64.bits 3).toNat == 0 then (avermentref09_Clean.f a0_1 a0_2).bind fun t => (avermentref10_Fix.f a0_3 a0_4).bind fun t_1 => some (IntKind.i64.wrap ↑(BitVec.ofInt IntKind.i64.bits a0_0 &&& BitVec.ofInt IntKind.i64.bits 7).toNat, t.fst, t.snd, t_1.fst, t_1.snd, 3) else (avermentref09_Clean.f a0_1 a0_2).bind fun t => (avermentref10_Fix.f a0_3 a0_4).bind fun t_1 => some (IntKind.i64.wrap ↑(BitVec.ofInt IntKind.i64.bits a0_0 &&& BitVec.ofInt IntKind.i64.bits 7).toNat, t.fst, t.snd, t_1.fst, t_1.snd, IntKind.i64.wrap ↑(BitVec.ofInt IntKind.i64.bits a0_5 &&& BitVec.ofInt IntKind.i64.bits 3).toNat)
def avermentref12_Fix.C : CallsBy := entry 35 [.agg [.b, .i .i64]] (fun k (a0_0 : Bool) (a0_1 : Int) => (avermentref09_Clean.f a0_0 a0_1).bind fun t => k (.agg #[.bool t.1, .int .i64 t.2])) (entry 36 [.agg [.i .i64, .i .i64]] (fun k (a0_0 : Int) (a0_1 : Int) => (avermentref10_Fix.f a0_0 a0_1).bind fun t => k (.agg #[.int .i64 t.1, .int .i64 t.2])) (noCalls))
theorem avermentref12_Fix.C_ok : CallsOk Try.prog avermentref12_Fix.C := entry_ok (entry_ok (noCalls_ok) Try.func36 (by kernel_rfl) rfl (fun k a0_0 a0_1 => bind_rets (fun t ht => avermentref10_Fix.rets a0_0 a0_1 t ht) k)) Try.func35 (by kernel_rfl) rfl (fun k a0_0 a0_1 => bind_rets (fun t ht => avermentref09_Clean.rets a0_0 a0_1 t ht) k)
set_option maxRecDepth 1000000 in
set_option maxHeartbeats 4000000 in
theorem avermentref12_Fix.eq (a0_0 : Int) (a0_1 : Bool) (a0_2 : Int) (a0_3 : Int) (a0_4 : Int) (a0_5 : Int) : runF Try.prog avermentref12_Fix.C (eqBy Try.prog) 20 Try.f9 [.agg #[.int .i64 a0_0, .bool a0_1, .int .i64 a0_2, .int .i64 a0_3, .int .i64 a0_4, .int .i64 a0_5]] = (avermentref12_Fix.f a0_0 a0_1 a0_2 a0_3 a0_4 a0_5).bind fun t => some (.agg #[.int .i64 t.1, .bool t.2.1, .int .i64 t.2.2.1, .int .i64 t.2.2.2.1, .int .i64 t.2.2.2.2.1, .int .i64 t.2.2.2.2.2]) := by
  unfold avermentref12_Fix.f
  simp only [cond_bind, Option.bind_assoc, some_bind, Option.bind_none]
  kernel_rfl
theorem avermentref12_Fix.rets (a0_0 : Int) (a0_1 : Bool) (a0_2 : Int) (a0_3 : Int) (a0_4 : Int) (a0_5 : Int) : ∀ t, avermentref12_Fix.f a0_0 a0_1 a0_2 a0_3 a0_4 a0_5 = some t → Rets Try.prog 9 [.agg #[.int .i64 a0_0, .bool a0_1, .int .i64 a0_2, .int .i64 a0_3, .int .i64 a0_4, .int .i64 a0_5]] (.agg #[.int .i64 t.1, .bool t.2.1, .int .i64 t.2.2.1, .int .i64 t.2.2.2.1, .int .i64 t.2.2.2.2.1, .int .i64 t.2.2.2.2.2]) := rets_of avermentref12_Fix.C_ok (by kernel_rfl) Try.func9 (by simp [flatB, aggB, leafB]) (avermentref12_Fix.eq a0_0 a0_1 a0_2 a0_3 a0_4 a0_5)
/-! ### known_Has: function 70 -/
def known_Has.f (a0_0 : Bool) (a0_1 : Int) (a1 : Int) : Option (Bool) := bif !a0_0 then some true else some (a0_1 == a1)
def known_Has.C : CallsBy := noCalls
theorem known_Has.C_ok : CallsOk Try.prog known_Has.C := noCalls_ok
set_option maxRecDepth 1000000 in
set_option maxHeartbeats 4000000 in
theorem known_Has.eq (a0_0 : Bool) (a0_1 : Int) (a1 : Int) : runF Try.prog known_Has.C (eqBy Try.prog) 20 Try.f70 [.agg #[.bool a0_0, .int .i64 a0_1], .int .i64 a1] = (known_Has.f a0_0 a0_1 a1).bind fun t => some (.bool t) := by
  unfold known_Has.f
  simp only [cond_bind, Option.bind_assoc, some_bind, Option.bind_none]
  kernel_rfl
theorem known_Has.rets (a0_0 : Bool) (a0_1 : Int) (a1 : Int) : ∀ t, known_Has.f a0_0 a0_1 a1 = some t → Rets Try.prog 70 [.agg #[.bool a0_0, .int .i64 a0_1], .int .i64 a1] (.bool t) := rets_of known_Has.C_ok (by kernel_rfl) Try.func70 (by simp [flatB, aggB, leafB]) (known_Has.eq a0_0 a0_1 a1)
/-! ### known_Any: function 66 -/
def known_Any.f : Option (Bool × Int) := some (false, 0)
def known_Any.C : CallsBy := noCalls
theorem known_Any.C_ok : CallsOk Try.prog known_Any.C := noCalls_ok
set_option maxRecDepth 1000000 in
set_option maxHeartbeats 4000000 in
theorem known_Any.eq : runF Try.prog known_Any.C (eqBy Try.prog) 20 Try.f66 [] = (known_Any.f).bind fun t => some (.agg #[.bool t.1, .int .i64 t.2]) := by
  unfold known_Any.f
  simp only [cond_bind, Option.bind_assoc, some_bind, Option.bind_none]
  kernel_rfl
theorem known_Any.rets : ∀ t, known_Any.f = some t → Rets Try.prog 66 [] (.agg #[.bool t.1, .int .i64 t.2]) := rets_of known_Any.C_ok (by kernel_rfl) Try.func66 (by simp [flatB, aggB, leafB]) (known_Any.eq)
/-! ### known_Meet: function 45 -/
def known_Meet.f (a0_0 : Bool) (a0_1 : Int) (a1_0 : Bool) (a1_1 : Int) : Option (Bool × Int × Bool) := bif !a0_0 then (known_Known_tidy.f a1_0 a1_1).bind fun t => some (t.fst, t.snd, true) else (known_Has.f a1_0 a1_1 a0_1).bind fun t => bif t then some (a0_0, a0_1, true) else known_Any.f.bind fun t => some (t.fst, t.snd, false)
def known_Meet.C : CallsBy := entry 95 [.agg [.b, .i .i64]] (fun k (a0_0 : Bool) (a0_1 : Int) => (known_Known_tidy.f a0_0 a0_1).bind fun t => k (.agg #[.bool t.1, .int .i64 t.2])) (entry 70 [.agg [.b, .i .i64], .one (.i .i64)] (fun k (a0_0 : Bool) (a0_1 : Int) (a1 : Int) => (known_Has.f a0_0 a0_1 a1).bind fun t => k (.bool t)) (entry 66 [] (fun k => (known_Any.f).bind fun t => k (.agg #[.bool t.1, .int .i64 t.2])) (noCalls)))
theorem known_Meet.C_ok : CallsOk Try.prog known_Meet.C := entry_ok (entry_ok (entry_ok (noCalls_ok) Try.func66 (by kernel_rfl) rfl (fun k => bind_rets (fun t ht => known_Any.rets t ht) k)) Try.func70 (by kernel_rfl) rfl (fun k a0_0 a0_1 a1 => bind_rets (fun t ht => known_Has.rets a0_0 a0_1 a1 t ht) k)) Try.func95 (by kernel_rfl) rfl (fun k a0_0 a0_1 => bind_rets (fun t ht => known_Known_tidy.rets a0_0 a0_1 t ht) k)
set_option maxRecDepth 1000000 in
set_option maxHeartbeats 4000000 in
theorem known_Meet.eq (a0_0 : Bool) (a0_1 : Int) (a1_0 : Bool) (a1_1 : Int) : runF Try.prog known_Meet.C (eqBy Try.prog) 20 Try.f45 [.agg #[.bool a0_0, .int .i64 a0_1], .agg #[.bool a1_0, .int .i64 a1_1]] = (known_Meet.f a0_0 a0_1 a1_0 a1_1).bind fun t => some (.tuple #[.agg #[.bool t.1, .int .i64 t.2.1], .bool t.2.2]) := by
  unfold known_Meet.f
  simp only [cond_bind, Option.bind_assoc, some_bind, Option.bind_none]
  kernel_rfl
theorem known_Meet.rets (a0_0 : Bool) (a0_1 : Int) (a1_0 : Bool) (a1_1 : Int) : ∀ t, known_Meet.f a0_0 a0_1 a1_0 a1_1 = some t → Rets Try.prog 45 [.agg #[.bool a0_0, .int .i64 a0_1], .agg #[.bool a1_0, .int .i64 a1_1]] (.tuple #[.agg #[.bool t.1, .int .i64 t.2.1], .bool t.2.2]) := rets_of known_Meet.C_ok (by kernel_rfl) Try.func45 (by simp [flatB, aggB, leafB]) (known_Meet.eq a0_0 a0_1 a1_0 a1_1)
/-! ### span_Meet: function 46 -/
def span_Meet.f (a0_0 : Int) (a0_1 : Int) (a1_0 : Int) (a1_1 : Int) : Option (Int × Int × Bool) := (span_Right.f (if a1_0 > a0_0 then a1_0 else a0_0) (if a1_1 < a0_1 then a1_1 else a0_1)).bind fun t => bif !t then some (0, 0, false) else some (if a1_0 > a0_0 then a1_0 else a0_0, if a1_1 < a0_1 then a1_1 else a0_1, true)
def span_Meet.C : CallsBy := entry 53 [.agg [.i .i64, .i .i64]] (fun k (a0_0 : Int) (a0_1 : Int) => (span_Right.f a0_0 a0_1).bind fun t => k (.bool t)) (noCalls)
theorem span_Meet.C_ok : CallsOk Try.prog span_Meet.C := entry_ok (noCalls_ok) Try.func53 (by kernel_rfl) rfl (fun k a0_0 a0_1 => bind_rets (fun t ht => span_Right.rets a0_0 a0_1 t ht) k)
set_option maxRecDepth 1000000 in
set_option maxHeartbeats 4000000 in
theorem span_Meet.eq (a0_0 : Int) (a0_1 : Int) (a1_0 : Int) (a1_1 : Int) : runF Try.prog span_Meet.C (eqBy Try.prog) 20 Try.f46 [.agg #[.int .i64 a0_0, .int .i64 a0_1], .agg #[.int .i64 a1_0, .int .i64 a1_1]] = (span_Meet.f a0_0 a0_1 a1_0 a1_1).bind fun t => some (.tuple #[.agg #[.int .i64 t.1, .int .i64 t.2.1], .bool t.2.2]) := by
  unfold span_Meet.f
  simp only [cond_bind, Option.bind_assoc, some_bind, Option.bind_none]
  kernel_rfl
theorem span_Meet.rets (a0_0 : Int) (a0_1 : Int) (a1_0 : Int) (a1_1 : Int) : ∀ t, span_Meet.f a0_0 a0_1 a1_0 a1_1 = some t → Rets Try.prog 46 [.agg #[.int .i64 a0_0, .int .i64 a0_1], .agg #[.int .i64 a1_0, .int .i64 a1_1]] (.tuple #[.agg #[.int .i64 t.1, .int .i64 t.2.1], .bool t.2.2]) := rets_of span_Meet.C_ok (by kernel_rfl) Try.func46 (by simp [flatB, aggB, leafB]) (span_Meet.eq a0_0 a0_1 a1_0 a1_1)
/-! ### sign_Meet: function 48 -/
def sign_Meet.f (a0 : Int) (a1 : Int) : Option (Int) := some (IntKind.i64.wrap ↑(BitVec.ofInt IntKind.i64.bits (IntKind.i64.wrap ↑(BitVec.ofInt IntKind.i64.bits a0 &&& BitVec.ofInt IntKind.i64.bits a1).toNat) &&& BitVec.ofInt IntKind.i64.bits 7).toNat)
def sign_Meet.C : CallsBy := noCalls
theorem sign_Meet.C_ok : CallsOk Try.prog sign_Meet.C := noCalls_ok
set_option maxRecDepth 1000000 in
set_option maxHeartbeats 4000000 in
theorem sign_Meet.eq (a0 : Int) (a1 : Int) : runF Try.prog sign_Meet.C (eqBy Try.prog) 20 Try.f48 [.int .i64 a0, .int .i64 a1] = (sign_Meet.f a0 a1).bind fun t => some (.int .i64 t) := by
  unfold sign_Meet.f
  simp only [cond_bind, Option.bind_assoc, some_bind, Option.bind_none]
  kernel_rfl
theorem sign_Meet.rets (a0 : Int) (a1 : Int) : ∀ t, sign_Meet.f a0 a1 = some t → Rets Try.prog 48 [.int .i64 a0, .int .i64 a1] (.int .i64 t) := rets_of sign_Meet.C_ok (by kernel_rfl) Try.func48 (by simp [flatB, aggB, leafB]) (sign_Meet.eq a0 a1)
/-! ### parity_Meet: function 49 -/
def parity_Meet.f (a0 : Int) (a1 : Int) : Option (Int) := some (IntKind.i64.wrap ↑(BitVec.ofInt IntKind.i64.bits (IntKind.i64.wrap ↑(BitVec.ofInt IntKind.i64.bits a0 &&& BitVec.ofInt IntKind.i64.bits a1).toNat) &&& BitVec.ofInt IntKind.i64.bits 3).toNat)
def parity_Meet.C : CallsBy := noCalls
theorem parity_Meet.C_ok : CallsOk Try.prog parity_Meet.C := noCalls_ok
set_option maxRecDepth 1000000 in
set_option maxHeartbeats 4000000 in
theorem parity_Meet.eq (a0 : Int) (a1 : Int) : runF Try.prog parity_Meet.C (eqBy Try.prog) 20 Try.f49 [.int .i64 a0, .int .i64 a1] = (parity_Meet.f a0 a1).bind fun t => some (.int .i64 t) := by
  unfold parity_Meet.f
  simp only [cond_bind, Option.bind_assoc, some_bind, Option.bind_none]
  kernel_rfl
theorem parity_Meet.rets (a0 : Int) (a1 : Int) : ∀ t, parity_Meet.f a0 a1 = some t → Rets Try.prog 49 [.int .i64 a0, .int .i64 a1] (.int .i64 t) := rets_of parity_Meet.C_ok (by kernel_rfl) Try.func49 (by simp [flatB, aggB, leafB]) (parity_Meet.eq a0 a1)
/-! ### fact_whole: function 47 -/
def fact_whole.f (a0 : Int) (a1_0 : Bool) (a1_1 : Int) (a2 : Bool) (a3_0 : Int) (a3_1 : Int) (a4 : Bool) (a5 : Int) : Option (Int × Bool × Int × Int × Int × Int × Bool) := bif a0 == 0 then some (0, false, 0, 0, 0, 0, false) else bif !a2 then some (0, false, 0, 0, 0, 0, false) else bif !a4 then some (0, false, 0, 0, 0, 0, false) else bif a5 == 0 then some (0, false, 0, 0, 0, 0, false) else some (a0, a1_0, a1_1, a3_0, a3_1, a5, true)
def fact_whole.C : CallsBy := noCalls
theorem fact_whole.C_ok : CallsOk Try.prog fact_whole.C := noCalls_ok
set_option maxRecDepth 1000000 in
set_option maxHeartbeats 4000000 in
theorem fact_whole.eq (a0 : Int) (a1_0 : Bool) (a1_1 : Int) (a2 : Bool) (a3_0 : Int) (a3_1 : Int) (a4 : Bool) (a5 : Int) : runF Try.prog fact_whole.C (eqBy Try.prog) 20 Try.f47 [.int .i64 a0, .agg #[.bool a1_0, .int .i64 a1_1], .bool a2, .agg #[.int .i64 a3_0, .int .i64 a3_1], .bool a4, .int .i64 a5] = (fact_whole.f a0 a1_0 a1_1 a2 a3_0 a3_1 a4 a5).bind fun t => some (.tuple #[.agg #[.int .i64 t.1, .bool t.2.1, .int .i64 t.2.2.1, .int .i64 t.2.2.2.1, .int .i64 t.2.2.2.2.1, .int .i64 t.2.2.2.2.2.1], .bool t.2.2.2.2.2.2]) := by
  unfold fact_whole.f
  simp only [cond_bind, Option.bind_assoc, some_bind, Option.bind_none]
  kernel_rfl
theorem fact_whole.rets (a0 : Int) (a1_0 : Bool) (a1_1 : Int) (a2 : Bool) (a3_0 : Int) (a3_1 : Int) (a4 : Bool) (a5 : Int) : ∀ t, fact_whole.f a0 a1_0 a1_1 a2 a3_0 a3_1 a4 a5 = some t → Rets Try.prog 47 [.int .i64 a0, .agg #[.bool a1_0, .int .i64 a1_1], .bool a2, .agg #[.int .i64 a3_0, .int .i64 a3_1], .bool a4, .int .i64 a5] (.tuple #[.agg #[.int .i64 t.1, .bool t.2.1, .int .i64 t.2.2.1, .int .i64 t.2.2.2.1, .int .i64 t.2.2.2.2.1, .int .i64 t.2.2.2.2.2.1], .bool t.2.2.2.2.2.2]) := rets_of fact_whole.C_ok (by kernel_rfl) Try.func47 (by simp [flatB, aggB, leafB]) (fact_whole.eq a0 a1_0 a1_1 a2 a3_0 a3_1 a4 a5)
/-! ### fact_Meet: function 13 -/
def fact_Meet.f (a0_0 : Int) (a0_1 : Bool) (a0_2 : Int) (a0_3 : Int) (a0_4 : Int) (a0_5 : Int) (a1_0 : Int) (a1_1 : Bool) (a1_2 : Int) (a1_3 : Int) (a1_4 : Int) (a1_5 : Int) : Option (Int × Bool × Int × Int × Int × Int × Bool) := (known_Meet.f a0_1 a0_2 a1_1 a1_2).bind fun t => (span_Meet.f a0_3 a0_4 a1_3 a1_4).bind fun t_1 => (sign_Meet.f a0_0 a1_0).bind fun t_2 => (parity_Meet.f a0_5 a1_5).bind fun t_3 => (fact_whole.f t_2 t.fst t.snd.fst t.snd.snd t_1.fst t_1.snd.fst t_1.snd.snd t_3).bind fun t => some (t.fst, t.snd.fst, t.snd.snd.fst, t.snd.snd.snd.fst, t.snd.snd.snd.snd.fst, t.snd.snd.snd.snd.snd.fst, t.snd.snd.snd.snd.snd.snd)
def fact_Meet.C : CallsBy := entry 45 [.agg [.b, .i .i64], .agg [.b, .i .i64]] (fun k (a0_0 : Bool) (a0_1 : Int) (a1_0 : Bool) (a1_1 : Int) => (known_Meet.f a0_0 a0_1 a1_0 a1_1).bind fun t => k (.tuple #[.agg #[.bool t.1, .int .i64 t.2.1], .bool t.2.2])) (entry 46 [.agg [.i .i64, .i .i64], .agg [.i .i64, .i .i64]] (fun k (a0_0 : Int) (a0_1 : Int) (a1_0 : Int) (a1_1 : Int) => (span_Meet.f a0_0 a0_1 a1_0 a1_1).bind fun t => k (.tuple #[.agg #[.int .i64 t.1, .int .i64 t.2.1], .bool t.2.2])) (entry 48 [.one (.i .i64), .one (.i .i64)] (fun k (a0 : Int) (a1 : Int) => (sign_Meet.f a0 a1).bind fun t => k (.int .i64 t)) (entry 49 [.one (.i .i64), .one (.i .i64)] (fun k (a0 : Int) (a1 : Int) => (parity_Meet.f a0 a1).bind fun t => k (.int .i64 t)) (entry 47 [.one (.i .i64), .agg [.b, .i .i64], .one (.b), .agg [.i .i64, .i .i64], .one (.b), .one (.i .i64)] (fun k (a0 : Int) (a1_0 : Bool) (a1_1 : Int) (a2 : Bool) (a3_0 : Int) (a3_1 : Int) (a4 : Bool) (a5 : Int) => (fact_whole.f a0 a1_0 a1_1 a2 a3_0 a3_1 a4 a5).bind fun t => k (.tuple #[.agg #[.int .i64 t.1, .bool t.2.1, .int .i64 t.2.2.1, .int .i64 t.2.2.2.1, .int .i64 t.2.2.2.2.1, .int .i64 t.2.2.2.2.2.1], .bool t.2.2.2.2.2.2])) (noCalls)))))
theorem fact_Meet.C_ok : CallsOk Try.prog fact_Meet.C := entry_ok (entry_ok (entry_ok (entry_ok (entry_ok (noCalls_ok) Try.func47 (by kernel_rfl) rfl (fun k a0 a1_0 a1_1 a2 a3_0 a3_1 a4 a5 => bind_rets (fun t ht => fact_whole.rets a0 a1_0 a1_1 a2 a3_0 a3_1 a4 a5 t ht) k)) Try.func49 (by kernel_rfl) rfl (fun k a0 a1 => bind_rets (fun t ht => parity_Meet.rets a0 a1 t ht) k)) Try.func48 (by kernel_rfl) rfl (fun k a0 a1 => bind_rets (fun t ht => sign_Meet.rets a0 a1 t ht) k)) Try.func46 (by kernel_rfl) rfl (fun k a0_0 a0_1 a1_0 a1_1 => bind_rets (fun t ht => span_Meet.rets a0_0 a0_1 a1_0 a1_1 t ht) k)) Try.func45 (by kernel_rfl) rfl (fun k a0_0 a0_1 a1_0 a1_1 => bind_rets (fun t ht => known_Meet.rets a0_0 a0_1 a1_0 a1_1 t ht) k)
set_option maxRecDepth 1000000 in
set_option maxHeartbeats 4000000 in
theorem fact_Meet.eq (a0_0 : Int) (a0_1 : Bool) (a0_2 : Int) (a0_3 : Int) (a0_4 : Int) (a0_5 : Int) (a1_0 : Int) (a1_1 : Bool) (a1_2 : Int) (a1_3 : Int) (a1_4 : Int) (a1_5 : Int) : runF Try.prog fact_Meet.C (eqBy Try.prog) 20 Try.f13 [.agg #[.int .i64 a0_0, .bool a0_1, .int .i64 a0_2, .int .i64 a0_3, .int .i64 a0_4, .int .i64 a0_5], .agg #[.int .i64 a1_0, .bool a1_1, .int .i64 a1_2, .int .i64 a1_3, .int .i64 a1_4, .int .i64 a1_5]] = (fact_Meet.f a0_0 a0_1 a0_2 a0_3 a0_4 a0_5 a1_0 a1_1 a1_2 a1_3 a1_4 a1_5).bind fun t => some (.tuple #[.agg #[.int .i64 t.1, .bool t.2.1, .int .i64 t.2.2.1, .int .i64 t.2.2.2.1, .int .i64 t.2.2.2.2.1, .int .i64 t.2.2.2.2.2.1], .bool t.2.2.2.2.2.2]) := by
  unfold fact_Meet.f
  simp only [cond_bind, Option.bind_assoc, some_bind, Option.bind_none]
  kernel_rfl
theorem fact_Meet.rets (a0_0 : Int) (a0_1 : Bool) (a0_2 : Int) (a0_3 : Int) (a0_4 : Int) (a0_5 : Int) (a1_0 : Int) (a1_1 : Bool) (a1_2 : Int) (a1_3 : Int) (a1_4 : Int) (a1_5 : Int) : ∀ t, fact_Meet.f a0_0 a0_1 a0_2 a0_3 a0_4 a0_5 a1_0 a1_1 a1_2 a1_3 a1_4 a1_5 = some t → Rets Try.prog 13 [.agg #[.int .i64 a0_0, .bool a0_1, .int .i64 a0_2, .int .i64 a0_3, .int .i64 a0_4, .int .i64 a0_5], .agg #[.int .i64 a1_0, .bool a1_1, .int .i64 a1_2, .int .i64 a1_3, .int .i64 a1_4, .int .i64 a1_5]] (.tuple #[.agg #[.int .i64 t.1, .bool t.2.1, .int .i64 t.2.2.1, .int .i64 t.2.2.2.1, .int .i64 t.2.2.2.2.1, .int .i64 t.2.2.2.2.2.1], .bool t.2.2.2.2.2.2]) := rets_of fact_Meet.C_ok (by kernel_rfl) Try.func13 (by simp [flatB, aggB, leafB]) (fact_Meet.eq a0_0 a0_1 a0_2 a0_3 a0_4 a0_5 a1_0 a1_1 a1_2 a1_3 a1_4 a1_5)
/-! ### avermentref09_Meet: function 55 -/
def avermentref09_Meet.f (a0_0 : Bool) (a0_1 : Int) (a1_0 : Bool) (a1_1 : Int) : Option (Bool × Int × Bool) := bif a0_0 then bif a1_0 then bif a0_1 != a1_1 then some (false, 0, false) else bif a0_0 then some (a0_0, a0_1, true) else (avermentref09_Clean.f a1_0 a1_1).bind fun t => some (t.fst, t.snd, true) else bif a0_0 then some (a0_0, a0_1, true) else (avermentref09_Clean.f a1_0 a1_1).bind fun t => some (t.fst, t.snd, true) else bif a0_0 then some (a0_0, a0_1, true) else (avermentref09_Clean.f a1_0 a1_1).bind fun t => some (t.fst, t.snd, true)
def avermentref09_Meet.C : CallsBy := entry 35 [.agg [.b, .i .i64]] (fun k (a0_0 : Bool) (a0_1 : Int) => (avermentref09_Clean.f a0_0 a0_1).bind fun t => k (.agg #[.bool t.1, .int .i64 t.2])) (noCalls)
theorem avermentref09_Meet.C_ok : CallsOk Try.prog avermentref09_Meet.C := entry_ok (noCalls_ok) Try.func35 (by kernel_rfl) rfl (fun k a0_0 a0_1 => bind_rets (fun t ht => avermentref09_Clean.rets a0_0 a0_1 t ht) k)
set_option maxRecDepth 1000000 in
set_option maxHeartbeats 4000000 in
theorem avermentref09_Meet.eq (a0_0 : Bool) (a0_1 : Int) (a1_0 : Bool) (a1_1 : Int) : runF Try.prog avermentref09_Meet.C (eqBy Try.prog) 20 Try.f55 [.agg #[.bool a0_0, .int .i64 a0_1], .agg #[.bool a1_0, .int .i64 a1_1]] = (avermentref09_Meet.f a0_0 a0_1 a1_0 a1_1).bind fun t => some (.tuple #[.agg #[.bool t.1, .int .i64 t.2.1], .bool t.2.2]) := by
  unfold avermentref09_Meet.f
  simp only [cond_bind, Option.bind_assoc, some_bind, Option.bind_none]
  kernel_rfl
theorem avermentref09_Meet.rets (a0_0 : Bool) (a0_1 : Int) (a1_0 : Bool) (a1_1 : Int) : ∀ t, avermentref09_Meet.f a0_0 a0_1 a1_0 a1_1 = some t → Rets Try.prog 55 [.agg #[.bool a0_0, .int .i64 a0_1], .agg #[.bool a1_0, .int .i64 a1_1]] (.tuple #[.agg #[.bool t.1, .int .i64 t.2.1], .bool t.2.2]) := rets_of avermentref09_Meet.C_ok (by kernel_rfl) Try.func55 (by simp [flatB, aggB, leafB]) (avermentref09_Meet.eq a0_0 a0_1 a1_0 a1_1)
/-! ### avermentref10_Meet: function 56 -/
def avermentref10_Meet.f (a0_0 : Int) (a0_1 : Int) (a1_0 : Int) (a1_1 : Int) : Option (Int × Int × Bool) := bif decide ((if a1_0 > a0_0 then a1_0 else a0_0) > if a1_1 < a0_1 then a1_1 else a0_1) then some (0, 0, false) else some (if a1_0 > a0_0 then a1_0 else a0_0, if a1_1 < a0_1 then a1_1 else a0_1, true)
def avermentref10_Meet.C : CallsBy := noCalls
theorem avermentref10_Meet.C_ok : CallsOk Try.prog avermentref10_Meet.C := noCalls_ok
set_option maxRecDepth 1000000 in
set_option maxHeartbeats 4000000 in
theorem avermentref10_Meet.eq (a0_0 : Int) (a0_1 : Int) (a1_0 : Int) (a1_1 : Int) : runF Try.prog avermentref10_Meet.C (eqBy Try.prog) 20 Try.f56 [.agg #[.int .i64 a0_0, .int .i64 a0_1], .agg #[.int .i64 a1_0, .int .i64 a1_1]] = (avermentref10_Meet.f a0_0 a0_1 a1_0 a1_1).bind fun t => some (.tuple #[.agg #[.int .i64 t.1, .int .i64 t.2.1], .bool t.2.2]) := by
  unfold avermentref10_Meet.f
  simp only [cond_bind, Option.bind_assoc, some_bind, Option.bind_none]
  kernel_rfl
theorem avermentref10_Meet.rets (a0_0 : Int) (a0_1 : Int) (a1_0 : Int) (a1_1 : Int) : ∀ t, avermentref10_Meet.f a0_0 a0_1 a1_0 a1_1 = some t → Rets Try.prog 56 [.agg #[.int .i64 a0_0, .int .i64 a0_1], .agg #[.int .i64 a1_0, .int .i64 a1_1]] (.tuple #[.agg #[.int .i64 t.1, .int .i64 t.2.1], .bool t.2.2]) := rets_of avermentref10_Meet.C_ok (by kernel_rfl) Try.func56 (by simp [flatB, aggB, leafB]) (avermentref10_Meet.eq a0_0 a0_1 a1_0 a1_1)
/-! ### avermentref12_all: function 57 -/
def avermentref12_all.f (a0_0 : Int) (a0_1 : Bool) (a0_2 : Int) (a0_3 : Int) (a0_4 : Int) (a0_5 : Int) (a1 : Bool) (a2 : Bool) : Option (Int × Bool × Int × Int × Int × Int × Bool) := bif a0_0 == 0 then some (0, false, 0, 0, 0, 0, false) else bif a0_5 == 0 then some (0, false, 0, 0, 0, 0, false) else bif !a1 then some (0, false, 0, 0, 0, 0, false) else bif !a2 then some (0, false, 0, 0, 0, 0, false) else some (a0_0, a0_1, a0_2, a0_3, a0_4, a0_5, true)
def avermentref12_all.C : CallsBy := noCalls
theorem avermentref12_all.C_ok : CallsOk Try.prog avermentref12_all.C := noCalls_ok
set_option maxRecDepth 1000000 in
set_option maxHeartbeats 4000000 in
theorem avermentref12_all.eq (a0_0 : Int) (a0_1 : Bool) (a0_2 : Int) (a0_3 : Int) (a0_4 : Int) (a0_5 : Int) (a1 : Bool) (a2 : Bool) : runF Try.prog avermentref12_all.C (eqBy Try.prog) 20 Try.f57 [.agg #[.int .i64 a0_0, .bool a0_1, .int .i64 a0_2, .int .i64 a0_3, .int .i64 a0_4, .int .i64 a0_5], .bool a1, .bool a2] = (avermentref12_all.f a0_0 a0_1 a0_2 a0_3 a0_4 a0_5 a1 a2).bind fun t => some (.tuple #[.agg #[.int .i64 t.1, .bool t.2.1, .int .i64 t.2.2.1, .int .i64 t.2.2.2.1, .int .i64 t.2.2.2.2.1, .int .i64 t.2.2.2.2.2.1], .bool t.2.2.2.2.2.2]) := by
  unfold avermentref12_all.f
  simp only [cond_bind, Option.bind_assoc, some_bind, Option.bind_none]
  kernel_rfl
theorem avermentref12_all.rets (a0_0 : Int) (a0_1 : Bool) (a0_2 : Int) (a0_3 : Int) (a0_4 : Int) (a0_5 : Int) (a1 : Bool) (a2 : Bool) : ∀ t, avermentref12_all.f a0_0 a0_1 a0_2 a0_3 a0_4 a0_5 a1 a2 = some t → Rets Try.prog 57 [.agg #[.int .i64 a0_0, .bool a0_1, .int .i64 a0_2, .int .i64 a0_3, .int .i64 a0_4, .int .i64 a0_5], .bool a1, .bool a2] (.tuple #[.agg #[.int .i64 t.1, .bool t.2.1, .int .i64 t.2.2.1, .int .i64 t.2.2.2.1, .int .i64 t.2.2.2.2.1, .int .i64 t.2.2.2.2.2.1], .bool t.2.2.2.2.2.2]) := rets_of avermentref12_all.C_ok (by kernel_rfl) Try.func57 (by simp [flatB, aggB, leafB]) (avermentref12_all.eq a0_0 a0_1 a0_2 a0_3 a0_4 a0_5 a1 a2)
/-! ### avermentref12_Meet: function 17 -/
def avermentref12_Meet.f (a0_0 : Int) (a0_1 : Bool) (a0_2 : Int) (a0_3 : Int) (a0_4 : Int) (a0_5 : Int) (a1_0 : Int) (a1_1 : Bool) (a1_2 : Int) (a1_3 : Int) (a1_4 : Int) (a1_5 : Int) : Option (Int × Bool × Int × Int × Int × Int × Bool) := (avermentref09_Meet.f a0_1 a0_2 a1_1 a1_2).bind fun t => (avermentref10_Meet.f a0_3 a0_4 a1_3 a1_4).bind fun t_1 => (avermentref12_all.f (IntKind.i64.wrap ↑(BitVec.ofInt IntKind.i64.bits a0_0 &&& BitVec.ofInt IntKind.i64.bits a1_0).toNat) t.fst t.snd.fst t_1.fst t_1.snd.fst (IntKind.i64.wrap ↑(BitVec.ofInt IntKind.i64.bits a0_5 &&& BitVec.ofInt IntKind.i64.bits a1_5).toNat) t.snd.snd t_1.snd.snd).bind fun t => some (t.fst, t.snd.fst, t.snd.snd.fst, t.snd.snd.snd.fst, t.snd.snd.snd.snd.fst, t.snd.snd.snd.snd.snd.fst, t.snd.snd.snd.snd.snd.snd)
def avermentref12_Meet.C : CallsBy := entry 55 [.agg [.b, .i .i64], .agg [.b, .i .i64]] (fun k (a0_0 : Bool) (a0_1 : Int) (a1_0 : Bool) (a1_1 : Int) => (avermentref09_Meet.f a0_0 a0_1 a1_0 a1_1).bind fun t => k (.tuple #[.agg #[.bool t.1, .int .i64 t.2.1], .bool t.2.2])) (entry 56 [.agg [.i .i64, .i .i64], .agg [.i .i64, .i .i64]] (fun k (a0_0 : Int) (a0_1 : Int) (a1_0 : Int) (a1_1 : Int) => (avermentref10_Meet.f a0_0 a0_1 a1_0 a1_1).bind fun t => k (.tuple #[.agg #[.int .i64 t.1, .int .i64 t.2.1], .bool t.2.2])) (entry 57 [.agg [.i .i64, .b, .i .i64, .i .i64, .i .i64, .i .i64], .one (.b), .one (.b)] (fun k (a0_0 : Int) (a0_1 : Bool) (a0_2 : Int) (a0_3 : Int) (a0_4 : Int) (a0_5 : Int) (a1 : Bool) (a2 : Bool) => (avermentref12_all.f a0_0 a0_1 a0_2 a0_3 a0_4 a0_5 a1 a2).bind fun t => k (.tuple #[.agg #[.int .i64 t.1, .bool t.2.1, .int .i64 t.2.2.1, .int .i64 t.2.2.2.1, .int .i64 t.2.2.2.2.1, .int .i64 t.2.2.2.2.2.1], .bool t.2.2.2.2.2.2])) (noCalls)))
theorem avermentref12_Meet.C_ok : CallsOk Try.prog avermentref12_Meet.C := entry_ok (entry_ok (entry_ok (noCalls_ok) Try.func57 (by kernel_rfl) rfl (fun k a0_0 a0_1 a0_2 a0_3 a0_4 a0_5 a1 a2 => bind_rets (fun t ht => avermentref12_all.rets a0_0 a0_1 a0_2 a0_3 a0_4 a0_5 a1 a2 t ht) k)) Try.func56 (by kernel_rfl) rfl (fun k a0_0 a0_1 a1_0 a1_1 => bind_rets (fun t ht => avermentref10_Meet.rets a0_0 a0_1 a1_0 a1_1 t ht) k)) Try.func55 (by kernel_rfl) rfl (fun k a0_0 a0_1 a1_0 a1_1 => bind_rets (fun t ht => avermentref09_Meet.rets a0_0 a0_1 a1_0 a1_1 t ht) k)
set_option maxRecDepth 1000000 in
set_option maxHeartbeats 4000000 in
theorem avermentref12_Meet.eq (a0_0 : Int) (a0_1 : Bool) (a0_2 : Int) (a0_3 : Int) (a0_4 : Int) (a0_5 : Int) (a1_0 : Int) (a1_1 : Bool) (a1_2 : Int) (a1_3 : Int) (a1_4 : Int) (a1_5 : Int) : runF Try.prog avermentref12_Meet.C (eqBy Try.prog) 20 Try.f17 [.agg #[.int .i64 a0_0, .bool a0_1, .int .i64 a0_2, .int .i64 a0_3, .int .i64 a0_4, .int .i64 a0_5], .agg #[.int .i64 a1_0, .bool a1_1, .int .i64 a1_2, .int .i64 a1_3, .int .i64 a1_4, .int .i64 a1_5]] = (avermentref12_Meet.f a0_0 a0_1 a0_2 a0_3 a0_4 a0_5 a1_0 a1_1 a1_2 a1_3 a1_4 a1_5).bind fun t => some (.tuple #[.agg #[.int .i64 t.1, .bool t.2.1, .int .i64 t.2.2.1, .int .i64 t.2.2.2.1, .int .i64 t.2.2.2.2.1, .int .i64 t.2.2.2.2.2.1], .bool t.2.2.2.2.2.2]) := by
  unfold avermentref12_Meet.f
  simp only [cond_bind, Option.bind_assoc, some_bind, Option.bind_none]
  kernel_rfl
theorem avermentref12_Meet.rets (a0_0 : Int) (a0_1 : Bool) (a0_2 : Int) (a0_3 : Int) (a0_4 : Int) (a0_5 : Int) (a1_0 : Int) (a1_1 : Bool) (a1_2 : Int) (a1_3 : Int) (a1_4 : Int) (a1_5 : Int) : ∀ t, avermentref12_Meet.f a0_0 a0_1 a0_2 a0_3 a0_4 a0_5 a1_0 a1_1 a1_2 a1_3 a1_4 a1_5 = some t → Rets Try.prog 17 [.agg #[.int .i64 a0_0, .bool a0_1, .int .i64 a0_2, .int .i64 a0_3, .int .i64 a0_4, .int .i64 a0_5], .agg #[.int .i64 a1_0, .bool a1_1, .int .i64 a1_2, .int .i64 a1_3, .int .i64 a1_4, .int .i64 a1_5]] (.tuple #[.agg #[.int .i64 t.1, .bool t.2.1, .int .i64 t.2.2.1, .int .i64 t.2.2.2.1, .int .i64 t.2.2.2.2.1, .int .i64 t.2.2.2.2.2.1], .bool t.2.2.2.2.2.2]) := rets_of avermentref12_Meet.C_ok (by kernel_rfl) Try.func17 (by simp [flatB, aggB, leafB]) (avermentref12_Meet.eq a0_0 a0_1 a0_2 a0_3 a0_4 a0_5 a1_0 a1_1 a1_2 a1_3 a1_4 a1_5)
/-! ### sign_Of: function 60 -/
def sign_Of.f (a0 : Int) : Option (Int) := bif decide (a0 < 0) then some 1 else bif a0 == 0 then some 2 else some 4
def sign_Of.C : CallsBy := noCalls
theorem sign_Of.C_ok : CallsOk Try.prog sign_Of.C := noCalls_ok
set_option maxRecDepth 1000000 in
set_option maxHeartbeats 4000000 in
theorem sign_Of.eq (a0 : Int) : runF Try.prog sign_Of.C (eqBy Try.prog) 20 Try.f60 [.int .i64 a0] = (sign_Of.f a0).bind fun t => some (.int .i64 t) := by
  unfold sign_Of.f
  simp only [cond_bind, Option.bind_assoc, some_bind, Option.bind_none]
  kernel_rfl
theorem sign_Of.rets (a0 : Int) : ∀ t, sign_Of.f a0 = some t → Rets Try.prog 60 [.int .i64 a0] (.int .i64 t) := rets_of sign_Of.C_ok (by kernel_rfl) Try.func60 (by simp [flatB, aggB, leafB]) (sign_Of.eq a0)
/-! ### known_Of: function 61 -/
def known_Of.f (a0 : Int) : Option (Bool × Int) := some (true, a0)
def known_Of.C : CallsBy := noCalls
theorem known_Of.C_ok : CallsOk Try.prog known_Of.C := noCalls_ok
set_option maxRecDepth 1000000 in
set_option maxHeartbeats 4000000 in
theorem known_Of.eq (a0 : Int) : runF Try.prog known_Of.C (eqBy Try.prog) 20 Try.f61 [.int .i64 a0] = (known_Of.f a0).bind fun t => some (.agg #[.bool t.1, .int .i64 t.2]) := by
  unfold known_Of.f
  simp only [cond_bind, Option.bind_assoc, some_bind, Option.bind_none]
  kernel_rfl
theorem known_Of.rets (a0 : Int) : ∀ t, known_Of.f a0 = some t → Rets Try.prog 61 [.int .i64 a0] (.agg #[.bool t.1, .int .i64 t.2]) := rets_of known_Of.C_ok (by kernel_rfl) Try.func61 (by simp [flatB, aggB, leafB]) (known_Of.eq a0)
/-! ### span_Of: function 62 -/
def span_Of.f (a0 : Int) : Option (Int × Int) := some (a0, a0)
def span_Of.C : CallsBy := noCalls
theorem span_Of.C_ok : CallsOk Try.prog span_Of.C := noCalls_ok
set_option maxRecDepth 1000000 in
set_option maxHeartbeats 4000000 in
theorem span_Of.eq (a0 : Int) : runF Try.prog span_Of.C (eqBy Try.prog) 20 Try.f62 [.int .i64 a0] = (span_Of.f a0).bind fun t => some (.agg #[.int .i64 t.1, .int .i64 t.2]) := by
  unfold span_Of.f
  simp only [cond_bind, Option.bind_assoc, some_bind, Option.bind_none]
  kernel_rfl
theorem span_Of.rets (a0 : Int) : ∀ t, span_Of.f a0 = some t → Rets Try.prog 62 [.int .i64 a0] (.agg #[.int .i64 t.1, .int .i64 t.2]) := rets_of span_Of.C_ok (by kernel_rfl) Try.func62 (by simp [flatB, aggB, leafB]) (span_Of.eq a0)
/-! ### parity_Of: function 63 -/
def parity_Of.f (a0 : Int) : Option (Int) := bif decide (IntKind.i64.wrap ↑(BitVec.ofInt IntKind.i64.bits a0 &&& BitVec.ofInt IntKind.i64.bits 1).toNat < 0) then none else some (IntKind.i64.wrap (1 * 2 ^ min (IntKind.i64.wrap ↑(BitVec.ofInt IntKind.i64.bits a0 &&& BitVec.ofInt IntKind.i64.bits 1).toNat).toNat IntKind.i64.bits))
def parity_Of.C : CallsBy := noCalls
theorem parity_Of.C_ok : CallsOk Try.prog parity_Of.C := noCalls_ok
set_option maxRecDepth 1000000 in
set_option maxHeartbeats 4000000 in
theorem parity_Of.eq (a0 : Int) : runF Try.prog parity_Of.C (eqBy Try.prog) 20 Try.f63 [.int .i64 a0] = (parity_Of.f a0).bind fun t => some (.int .i64 t) := by
  unfold parity_Of.f
  simp only [cond_bind, Option.bind_assoc, some_bind, Option.bind_none]
  kernel_rfl
theorem parity_Of.rets (a0 : Int) : ∀ t, parity_Of.f a0 = some t → Rets Try.prog 63 [.int .i64 a0] (.int .i64 t) := rets_of parity_Of.C_ok (by kernel_rfl) Try.func63 (by simp [flatB, aggB, leafB]) (parity_Of.eq a0)
/-! ### fact_Of: function 19 -/
def fact_Of.f (a0 : Int) : Option (Int × Bool × Int × Int × Int × Int) := (sign_Of.f a0).bind fun t => (known_Of.f a0).bind fun t_1 => (span_Of.f a0).bind fun t_2 => (parity_Of.f a0).bind fun t_3 => some (t, t_1.fst, t_1.snd, t_2.fst, t_2.snd, t_3)
def fact_Of.C : CallsBy := entry 60 [.one (.i .i64)] (fun k (a0 : Int) => (sign_Of.f a0).bind fun t => k (.int .i64 t)) (entry 61 [.one (.i .i64)] (fun k (a0 : Int) => (known_Of.f a0).bind fun t => k (.agg #[.bool t.1, .int .i64 t.2])) (entry 62 [.one (.i .i64)] (fun k (a0 : Int) => (span_Of.f a0).bind fun t => k (.agg #[.int .i64 t.1, .int .i64 t.2])) (entry 63 [.one (.i .i64)] (fun k (a0 : Int) => (parity_Of.f a0).bind fun t => k (.int .i64 t)) (noCalls))))
theorem fact_Of.C_ok : CallsOk Try.prog fact_Of.C := entry_ok (entry_ok (entry_ok (entry_ok (noCalls_ok) Try.func63 (by kernel_rfl) rfl (fun k a0 => bind_rets (fun t ht => parity_Of.rets a0 t ht) k)) Try.func62 (by kernel_rfl) rfl (fun k a0 => bind_rets (fun t ht => span_Of.rets a0 t ht) k)) Try.func61 (by kernel_rfl) rfl (fun k a0 => bind_rets (fun t ht => known_Of.rets a0 t ht) k)) Try.func60 (by kernel_rfl) rfl (fun k a0 => bind_rets (fun t ht => sign_Of.rets a0 t ht) k)
set_option maxRecDepth 1000000 in
set_option maxHeartbeats 4000000 in
theorem fact_Of.eq (a0 : Int) : runF Try.prog fact_Of.C (eqBy Try.prog) 20 Try.f19 [.int .i64 a0] = (fact_Of.f a0).bind fun t => some (.agg #[.int .i64 t.1, .bool t.2.1, .int .i64 t.2.2.1, .int .i64 t.2.2.2.1, .int .i64 t.2.2.2.2.1, .int .i64 t.2.2.2.2.2]) := by
  unfold fact_Of.f
  simp only [cond_bind, Option.bind_assoc, some_bind, Option.bind_none]
  kernel_rfl
theorem fact_Of.rets (a0 : Int) : ∀ t, fact_Of.f a0 = some t → Rets Try.prog 19 [.int .i64 a0] (.agg #[.int .i64 t.1, .bool t.2.1, .int .i64 t.2.2.1, .int .i64 t.2.2.2.1, .int .i64 t.2.2.2.2.1, .int .i64 t.2.2.2.2.2]) := rets_of fact_Of.C_ok (by kernel_rfl) Try.func19 (by simp [flatB, aggB, leafB]) (fact_Of.eq a0)
/-! ### sign_Join: function 37 -/
def sign_Join.f (a0 : Int) (a1 : Int) : Option (Int) := some (IntKind.i64.wrap ↑(BitVec.ofInt IntKind.i64.bits (IntKind.i64.wrap ↑(BitVec.ofInt IntKind.i64.bits a0 ||| BitVec.ofInt IntKind.i64.bits a1).toNat) &&& BitVec.ofInt IntKind.i64.bits 7).toNat)
def sign_Join.C : CallsBy := noCalls
theorem sign_Join.C_ok : CallsOk Try.prog sign_Join.C := noCalls_ok
set_option maxRecDepth 1000000 in
set_option maxHeartbeats 4000000 in
theorem sign_Join.eq (a0 : Int) (a1 : Int) : runF Try.prog sign_Join.C (eqBy Try.prog) 20 Try.f37 [.int .i64 a0, .int .i64 a1] = (sign_Join.f a0 a1).bind fun t => some (.int .i64 t) := by
  unfold sign_Join.f
  simp only [cond_bind, Option.bind_assoc, some_bind, Option.bind_none]
  kernel_rfl
theorem sign_Join.rets (a0 : Int) (a1 : Int) : ∀ t, sign_Join.f a0 a1 = some t → Rets Try.prog 37 [.int .i64 a0, .int .i64 a1] (.int .i64 t) := rets_of sign_Join.C_ok (by kernel_rfl) Try.func37 (by simp [flatB, aggB, leafB]) (sign_Join.eq a0 a1)
/-! ### known_Known_is: function 94 -/
def known_Known_is.f (a0_0 : Bool) (a0_1 : Int) (a1 : Int) : Option (Bool) := bif a0_0 then some (a0_1 == a1) else some false
def known_Known_is.C : CallsBy := noCalls
theorem known_Known_is.C_ok : CallsOk Try.prog known_Known_is.C := noCalls_ok
set_option maxRecDepth 1000000 in
set_option maxHeartbeats 4000000 in
theorem known_Known_is.eq (a0_0 : Bool) (a0_1 : Int) (a1 : Int) : runF Try.prog known_Known_is.C (eqBy Try.prog) 20 Try.f94 [.agg #[.bool a0_0, .int .i64 a0_1], .int .i64 a1] = (known_Known_is.f a0_0 a0_1 a1).bind fun t => some (.bool t) := by
  unfold known_Known_is.f
  simp only [cond_bind, Option.bind_assoc, some_bind, Option.bind_none]
  kernel_rfl
theorem known_Known_is.rets (a0_0 : Bool) (a0_1 : Int) (a1 : Int) : ∀ t, known_Known_is.f a0_0 a0_1 a1 = some t → Rets Try.prog 94 [.agg #[.bool a0_0, .int .i64 a0_1], .int .i64 a1] (.bool t) := rets_of known_Known_is.C_ok (by kernel_rfl) Try.func94 (by simp [flatB, aggB, leafB]) (known_Known_is.eq a0_0 a0_1 a1)
/-! ### known_Join: function 38 -/
def known_Join.f (a0_0 : Bool) (a0_1 : Int) (a1_0 : Bool) (a1_1 : Int) : Option (Bool × Int) := bif a0_0 then (known_Known_is.f a1_0 a1_1 a0_1).bind fun t => bif t then some (a0_0, a0_1) else known_Any.f.bind fun t => some (t.fst, t.snd) else known_Any.f.bind fun t => some (t.fst, t.snd)
def known_Join.C : CallsBy := entry 94 [.agg [.b, .i .i64], .one (.i .i64)] (fun k (a0_0 : Bool) (a0_1 : Int) (a1 : Int) => (known_Known_is.f a0_0 a0_1 a1).bind fun t => k (.bool t)) (entry 66 [] (fun k => (known_Any.f).bind fun t => k (.agg #[.bool t.1, .int .i64 t.2])) (noCalls))
theorem known_Join.C_ok : CallsOk Try.prog known_Join.C := entry_ok (entry_ok (noCalls_ok) Try.func66 (by kernel_rfl) rfl (fun k => bind_rets (fun t ht => known_Any.rets t ht) k)) Try.func94 (by kernel_rfl) rfl (fun k a0_0 a0_1 a1 => bind_rets (fun t ht => known_Known_is.rets a0_0 a0_1 a1 t ht) k)
set_option maxRecDepth 1000000 in
set_option maxHeartbeats 4000000 in
theorem known_Join.eq (a0_0 : Bool) (a0_1 : Int) (a1_0 : Bool) (a1_1 : Int) : runF Try.prog known_Join.C (eqBy Try.prog) 20 Try.f38 [.agg #[.bool a0_0, .int .i64 a0_1], .agg #[.bool a1_0, .int .i64 a1_1]] = (known_Join.f a0_0 a0_1 a1_0 a1_1).bind fun t => some (.agg #[.bool t.1, .int .i64 t.2]) := by
  unfold known_Join.f
  simp only [cond_bind, Option.bind_assoc, some_bind, Option.bind_none]
  kernel_rfl
theorem known_Join.rets (a0_0 : Bool) (a0_1 : Int) (a1_0 : Bool) (a1_1 : Int) : ∀ t, known_Join.f a0_0 a0_1 a1_0 a1_1 = some t → Rets Try.prog 38 [.agg #[.bool a0_0, .int .i64 a0_1], .agg #[.bool a1_0, .int .i64 a1_1]] (.agg #[.bool t.1, .int .i64 t.2]) := rets_of known_Join.C_ok (by kernel_rfl) Try.func38 (by simp [flatB, aggB, leafB]) (known_Join.eq a0_0 a0_1 a1_0 a1_1)
/-! ### span_Join: function 39 -/
def span_Join.f (a0_0 : Int) (a0_1 : Int) (a1_0 : Int) (a1_1 : Int) : Option (Int × Int) := some (if a1_0 < a0_0 then a1_0 else a0_0, if a1_1 > a0_1 then a1_1 else a0_1)
def span_Join.C : CallsBy := noCalls
theorem span_Join.C_ok : CallsOk Try.prog span_Join.C := noCalls_ok
set_option maxRecDepth 1000000 in
set_option maxHeartbeats 4000000 in
theorem span_Join.eq (a0_0 : Int) (a0_1 : Int) (a1_0 : Int) (a1_1 : Int) : runF Try.prog span_Join.C (eqBy Try.prog) 20 Try.f39 [.agg #[.int .i64 a0_0, .int .i64 a0_1], .agg #[.int .i64 a1_0, .int .i64 a1_1]] = (span_Join.f a0_0 a0_1 a1_0 a1_1).bind fun t => some (.agg #[.int .i64 t.1, .int .i64 t.2]) := by
  unfold span_Join.f
  simp only [cond_bind, Option.bind_assoc, some_bind, Option.bind_none]
  kernel_rfl
theorem span_Join.rets (a0_0 : Int) (a0_1 : Int) (a1_0 : Int) (a1_1 : Int) : ∀ t, span_Join.f a0_0 a0_1 a1_0 a1_1 = some t → Rets Try.prog 39 [.agg #[.int .i64 a0_0, .int .i64 a0_1], .agg #[.int .i64 a1_0, .int .i64 a1_1]] (.agg #[.int .i64 t.1, .int .i64 t.2]) := rets_of span_Join.C_ok (by kernel_rfl) Try.func39 (by simp [flatB, aggB, leafB]) (span_Join.eq a0_0 a0_1 a1_0 a1_1)
/-! ### parity_Join: function 40 -/
def parity_Join.f (a0 : Int) (a1 : Int) : Option (Int) := some (IntKind.i64.wrap ↑(BitVec.ofInt IntKind.i64.bits (IntKind.i64.wrap ↑(BitVec.ofInt IntKind.i64.bits a0 ||| BitVec.ofInt IntKind.i64.bits a1).toNat) &&& BitVec.ofInt IntKind.i64.bits 3).toNat)
def parity_Join.C : CallsBy := noCalls
theorem parity_Join.C_ok : CallsOk Try.prog parity_Join.C := noCalls_ok
set_option maxRecDepth 1000000 in
set_option maxHeartbeats 4000000 in
theorem parity_Join.eq (a0 : Int) (a1 : Int) : runF Try.prog parity_Join.C (eqBy Try.prog) 20 Try.f40 [.int .i64 a0, .int .i64 a1] = (parity_Join.f a0 a1).bind fun t => some (.int .i64 t) := by
  unfold parity_Join.f
  simp only [cond_bind, Option.bind_assoc, some_bind, Option.bind_none]
  kernel_rfl
theorem parity_Join.rets (a0 : Int) (a1 : Int) : ∀ t, parity_Join.f a0 a1 = some t → Rets Try.prog 40 [.int .i64 a0, .int .i64 a1] (.int .i64 t) := rets_of parity_Join.C_ok (by kernel_rfl) Try.func40 (by simp [flatB, aggB, leafB]) (parity_Join.eq a0 a1)
/-! ### fact_Join: function 10 -/
def fact_Join.f (a0_0 : Int) (a0_1 : Bool) (a0_2 : Int) (a0_3 : Int) (a0_4 : Int) (a0_5 : Int) (a1_0 : Int) (a1_1 : Bool) (a1_2 : Int) (a1_3 : Int) (a1_4 : Int) (a1_5 : Int) : Option (Int × Bool × Int × Int × Int × Int) := (sign_Join.f a0_0 a1_0).bind fun t => (known_Join.f a0_1 a0_2 a1_1 a1_2).bind fun t_1 => (span_Join.f a0_3 a0_4 a1_3 a1_4).bind fun t_2 => (parity_Join.f a0_5 a1_5).bind fun t_3 => some (t, t_1.fst, t_1.snd, t_2.fst, t_2.snd, t_3)
def fact_Join.C : CallsBy := entry 37 [.one (.i .i64), .one (.i .i64)] (fun k (a0 : Int) (a1 : Int) => (sign_Join.f a0 a1).bind fun t => k (.int .i64 t)) (entry 38 [.agg [.b, .i .i64], .agg [.b, .i .i64]] (fun k (a0_0 : Bool) (a0_1 : Int) (a1_0 : Bool) (a1_1 : Int) => (known_Join.f a0_0 a0_1 a1_0 a1_1).bind fun t => k (.agg #[.bool t.1, .int .i64 t.2])) (entry 39 [.agg [.i .i64, .i .i64], .agg [.i .i64, .i .i64]] (fun k (a0_0 : Int) (a0_1 : Int) (a1_0 : Int) (a1_1 : Int) => (span_Join.f a0_0 a0_1 a1_0 a1_1).bind fun t => k (.agg #[.int .i64 t.1, .int .i64 t.2])) (entry 40 [.one (.i .i64), .one (.i .i64)] (fun k (a0 : Int) (a1 : Int) => (parity_Join.f a0 a1).bind fun t => k (.int .i64 t)) (noCalls))))
theorem fact_Join.C_ok : CallsOk Try.prog fact_Join.C := entry_ok (entry_ok (entry_ok (entry_ok (noCalls_ok) Try.func40 (by kernel_rfl) rfl (fun k a0 a1 => bind_rets (fun t ht => parity_Join.rets a0 a1 t ht) k)) Try.func39 (by kernel_rfl) rfl (fun k a0_0 a0_1 a1_0 a1_1 => bind_rets (fun t ht => span_Join.rets a0_0 a0_1 a1_0 a1_1 t ht) k)) Try.func38 (by kernel_rfl) rfl (fun k a0_0 a0_1 a1_0 a1_1 => bind_rets (fun t ht => known_Join.rets a0_0 a0_1 a1_0 a1_1 t ht) k)) Try.func37 (by kernel_rfl) rfl (fun k a0 a1 => bind_rets (fun t ht => sign_Join.rets a0 a1 t ht) k)
set_option maxRecDepth 1000000 in
set_option maxHeartbeats 4000000 in
theorem fact_Join.eq (a0_0 : Int) (a0_1 : Bool) (a0_2 : Int) (a0_3 : Int) (a0_4 : Int) (a0_5 : Int) (a1_0 : Int) (a1_1 : Bool) (a1_2 : Int) (a1_3 : Int) (a1_4 : Int) (a1_5 : Int) : runF Try.prog fact_Join.C (eqBy Try.prog) 20 Try.f10 [.agg #[.int .i64 a0_0, .bool a0_1, .int .i64 a0_2, .int .i64 a0_3, .int .i64 a0_4, .int .i64 a0_5], .agg #[.int .i64 a1_0, .bool a1_1, .int .i64 a1_2, .int .i64 a1_3, .int .i64 a1_4, .int .i64 a1_5]] = (fact_Join.f a0_0 a0_1 a0_2 a0_3 a0_4 a0_5 a1_0 a1_1 a1_2 a1_3 a1_4 a1_5).bind fun t => some (.agg #[.int .i64 t.1, .bool t.2.1, .int .i64 t.2.2.1, .int .i64 t.2.2.2.1, .int .i64 t.2.2.2.2.1, .int .i64 t.2.2.2.2.2]) := by
  unfold fact_Join.f
  simp only [cond_bind, Option.bind_assoc, some_bind, Option.bind_none]
  kernel_rfl
theorem fact_Join.rets (a0_0 : Int) (a0_1 : Bool) (a0_2 : Int) (a0_3 : Int) (a0_4 : Int) (a0_5 : Int) (a1_0 : Int) (a1_1 : Bool) (a1_2 : Int) (a1_3 : Int) (a1_4 : Int) (a1_5 : Int) : ∀ t, fact_Join.f a0_0 a0_1 a0_2 a0_3 a0_4 a0_5 a1_0 a1_1 a1_2 a1_3 a1_4 a1_5 = some t → Rets Try.prog 10 [.agg #[.int .i64 a0_0, .bool a0_1, .int .i64 a0_2, .int .i64 a0_3, .int .i64 a0_4, .int .i64 a0_5], .agg #[.int .i64 a1_0, .bool a1_1, .int .i64 a1_2, .int .i64 a1_3, .int .i64 a1_4, .int .i64 a1_5]] (.agg #[.int .i64 t.1, .bool t.2.1, .int .i64 t.2.2.1, .int .i64 t.2.2.2.1, .int .i64 t.2.2.2.2.1, .int .i64 t.2.2.2.2.2]) := rets_of fact_Join.C_ok (by kernel_rfl) Try.func10 (by simp [flatB, aggB, leafB]) (fact_Join.eq a0_0 a0_1 a0_2 a0_3 a0_4 a0_5 a1_0 a1_1 a1_2 a1_3 a1_4 a1_5)
/-! ### span_Any: function 67 -/
def span_Any.f : Option (Int × Int) := some (-9223372036854775808, 9223372036854775807)
def span_Any.C : CallsBy := noCalls
theorem span_Any.C_ok : CallsOk Try.prog span_Any.C := noCalls_ok
set_option maxRecDepth 1000000 in
set_option maxHeartbeats 4000000 in
theorem span_Any.eq : runF Try.prog span_Any.C (eqBy Try.prog) 20 Try.f67 [] = (span_Any.f).bind fun t => some (.agg #[.int .i64 t.1, .int .i64 t.2]) := by
  unfold span_Any.f
  simp only [cond_bind, Option.bind_assoc, some_bind, Option.bind_none]
  kernel_rfl
theorem span_Any.rets : ∀ t, span_Any.f = some t → Rets Try.prog 67 [] (.agg #[.int .i64 t.1, .int .i64 t.2]) := rets_of span_Any.C_ok (by kernel_rfl) Try.func67 (by simp [flatB, aggB, leafB]) (span_Any.eq)
/-! ### fact_Any: function 21 -/
def fact_Any.f : Option (Int × Bool × Int × Int × Int × Int) := known_Any.f.bind fun t => span_Any.f.bind fun t_1 => some (7, t.fst, t.snd, t_1.fst, t_1.snd, 3)
def fact_Any.C : CallsBy := entry 66 [] (fun k => (known_Any.f).bind fun t => k (.agg #[.bool t.1, .int .i64 t.2])) (entry 67 [] (fun k => (span_Any.f).bind fun t => k (.agg #[.int .i64 t.1, .int .i64 t.2])) (noCalls))
theorem fact_Any.C_ok : CallsOk Try.prog fact_Any.C := entry_ok (entry_ok (noCalls_ok) Try.func67 (by kernel_rfl) rfl (fun k => bind_rets (fun t ht => span_Any.rets t ht) k)) Try.func66 (by kernel_rfl) rfl (fun k => bind_rets (fun t ht => known_Any.rets t ht) k)
set_option maxRecDepth 1000000 in
set_option maxHeartbeats 4000000 in
theorem fact_Any.eq : runF Try.prog fact_Any.C (eqBy Try.prog) 20 Try.f21 [] = (fact_Any.f).bind fun t => some (.agg #[.int .i64 t.1, .bool t.2.1, .int .i64 t.2.2.1, .int .i64 t.2.2.2.1, .int .i64 t.2.2.2.2.1, .int .i64 t.2.2.2.2.2]) := by
  unfold fact_Any.f
  simp only [cond_bind, Option.bind_assoc, some_bind, Option.bind_none]
  kernel_rfl
theorem fact_Any.rets : ∀ t, fact_Any.f = some t → Rets Try.prog 21 [] (.agg #[.int .i64 t.1, .bool t.2.1, .int .i64 t.2.2.1, .int .i64 t.2.2.2.1, .int .i64 t.2.2.2.2.1, .int .i64 t.2.2.2.2.2]) := rets_of fact_Any.C_ok (by kernel_rfl) Try.func21 (by simp [flatB, aggB, leafB]) (fact_Any.eq)
/-! ### avermentlaw12_told: function 11 -/
def avermentlaw12_told.f : Option (Bool) := (fact_Of.f 2).bind fun t => (fact_Of.f 4).bind fun t_1 => (fact_Join.f t.fst t.snd.fst t.snd.snd.fst t.snd.snd.snd.fst t.snd.snd.snd.snd.fst t.snd.snd.snd.snd.snd t_1.fst t_1.snd.fst t_1.snd.snd.fst t_1.snd.snd.snd.fst t_1.snd.snd.snd.snd.fst t_1.snd.snd.snd.snd.snd).bind fun t => (fact_Of.f 2).bind fun t_2 => (fact_Of.f 3).bind fun t_3 => (fact_Meet.f t_2.fst t_2.snd.fst t_2.snd.snd.fst t_2.snd.snd.snd.fst t_2.snd.snd.snd.snd.fst t_2.snd.snd.snd.snd.snd t_3.fst t_3.snd.fst t_3.snd.snd.fst t_3.snd.snd.snd.fst t_3.snd.snd.snd.snd.fst t_3.snd.snd.snd.snd.snd).bind fun t_4 => bif !t_4.snd.snd.snd.snd.snd.snd then bif t.fst == 4 then bif !t.snd.fst then bif t.snd.snd.snd.fst == 2 then bif t.snd.snd.snd.snd.fst == 4 then bif t.snd.snd.snd.snd.snd == 1 then fact_Any.f.bind fun t => (fact_Right.f t.fst t.snd.fst t.snd.snd.fst t.snd.snd.snd.fst t.snd.snd.snd.snd.fst t.snd.snd.snd.snd.snd).bind fun t => bif t then (fact_Right.f 0 false 0 0 0 0).bind fun t => some !t else some false else some false else some false else some false else some false else some false else some false
def avermentlaw12_told.C : CallsBy := entry 19 [.one (.i .i64)] (fun k (a0 : Int) => (fact_Of.f a0).bind fun t => k (.agg #[.int .i64 t.1, .bool t.2.1, .int .i64 t.2.2.1, .int .i64 t.2.2.2.1, .int .i64 t.2.2.2.2.1, .int .i64 t.2.2.2.2.2])) (entry 10 [.agg [.i .i64, .b, .i .i64, .i .i64, .i .i64, .i .i64], .agg [.i .i64, .b, .i .i64, .i .i64, .i .i64, .i .i64]] (fun k (a0_0 : Int) (a0_1 : Bool) (a0_2 : Int) (a0_3 : Int) (a0_4 : Int) (a0_5 : Int) (a1_0 : Int) (a1_1 : Bool) (a1_2 : Int) (a1_3 : Int) (a1_4 : Int) (a1_5 : Int) => (fact_Join.f a0_0 a0_1 a0_2 a0_3 a0_4 a0_5 a1_0 a1_1 a1_2 a1_3 a1_4 a1_5).bind fun t => k (.agg #[.int .i64 t.1, .bool t.2.1, .int .i64 t.2.2.1, .int .i64 t.2.2.2.1, .int .i64 t.2.2.2.2.1, .int .i64 t.2.2.2.2.2])) (entry 13 [.agg [.i .i64, .b, .i .i64, .i .i64, .i .i64, .i .i64], .agg [.i .i64, .b, .i .i64, .i .i64, .i .i64, .i .i64]] (fun k (a0_0 : Int) (a0_1 : Bool) (a0_2 : Int) (a0_3 : Int) (a0_4 : Int) (a0_5 : Int) (a1_0 : Int) (a1_1 : Bool) (a1_2 : Int) (a1_3 : Int) (a1_4 : Int) (a1_5 : Int) => (fact_Meet.f a0_0 a0_1 a0_2 a0_3 a0_4 a0_5 a1_0 a1_1 a1_2 a1_3 a1_4 a1_5).bind fun t => k (.tuple #[.agg #[.int .i64 t.1, .bool t.2.1, .int .i64 t.2.2.1, .int .i64 t.2.2.2.1, .int .i64 t.2.2.2.2.1, .int .i64 t.2.2.2.2.2.1], .bool t.2.2.2.2.2.2])) (entry 21 [] (fun k => (fact_Any.f).bind fun t => k (.agg #[.int .i64 t.1, .bool t.2.1, .int .i64 t.2.2.1, .int .i64 t.2.2.2.1, .int .i64 t.2.2.2.2.1, .int .i64 t.2.2.2.2.2])) (entry 15 [.agg [.i .i64, .b, .i .i64, .i .i64, .i .i64, .i .i64]] (fun k (a0_0 : Int) (a0_1 : Bool) (a0_2 : Int) (a0_3 : Int) (a0_4 : Int) (a0_5 : Int) => (fact_Right.f a0_0 a0_1 a0_2 a0_3 a0_4 a0_5).bind fun t => k (.bool t)) (noCalls)))))
theorem avermentlaw12_told.C_ok : CallsOk Try.prog avermentlaw12_told.C := entry_ok (entry_ok (entry_ok (entry_ok (entry_ok (noCalls_ok) Try.func15 (by kernel_rfl) rfl (fun k a0_0 a0_1 a0_2 a0_3 a0_4 a0_5 => bind_rets (fun t ht => fact_Right.rets a0_0 a0_1 a0_2 a0_3 a0_4 a0_5 t ht) k)) Try.func21 (by kernel_rfl) rfl (fun k => bind_rets (fun t ht => fact_Any.rets t ht) k)) Try.func13 (by kernel_rfl) rfl (fun k a0_0 a0_1 a0_2 a0_3 a0_4 a0_5 a1_0 a1_1 a1_2 a1_3 a1_4 a1_5 => bind_rets (fun t ht => fact_Meet.rets a0_0 a0_1 a0_2 a0_3 a0_4 a0_5 a1_0 a1_1 a1_2 a1_3 a1_4 a1_5 t ht) k)) Try.func10 (by kernel_rfl) rfl (fun k a0_0 a0_1 a0_2 a0_3 a0_4 a0_5 a1_0 a1_1 a1_2 a1_3 a1_4 a1_5 => bind_rets (fun t ht => fact_Join.rets a0_0 a0_1 a0_2 a0_3 a0_4 a0_5 a1_0 a1_1 a1_2 a1_3 a1_4 a1_5 t ht) k)) Try.func19 (by kernel_rfl) rfl (fun k a0 => bind_rets (fun t ht => fact_Of.rets a0 t ht) k)
set_option maxRecDepth 1000000 in
set_option maxHeartbeats 4000000 in
theorem avermentlaw12_told.eq : runF Try.prog avermentlaw12_told.C (eqBy Try.prog) 20 Try.f11 [] = (avermentlaw12_told.f).bind fun t => some (.bool t) := by
  unfold avermentlaw12_told.f
  simp only [cond_bind, Option.bind_assoc, some_bind, Option.bind_none]
  kernel_rfl
theorem avermentlaw12_told.rets : ∀ t, avermentlaw12_told.f = some t → Rets Try.prog 11 [] (.bool t) := rets_of avermentlaw12_told.C_ok (by kernel_rfl) Try.func11 (by simp [flatB, aggB, leafB]) (avermentlaw12_told.eq)
/-! ### avermentlaw09_From: function 58 -/
def avermentlaw09_From.f (a0_0 : Bool) (a0_1 : Int) : Option (Bool × Int) := some (a0_0, a0_1)
def avermentlaw09_From.C : CallsBy := noCalls
theorem avermentlaw09_From.C_ok : CallsOk Try.prog avermentlaw09_From.C := noCalls_ok
set_option maxRecDepth 1000000 in
set_option maxHeartbeats 4000000 in
theorem avermentlaw09_From.eq (a0_0 : Bool) (a0_1 : Int) : runF Try.prog avermentlaw09_From.C (eqBy Try.prog) 20 Try.f58 [.agg #[.bool a0_0, .int .i64 a0_1]] = (avermentlaw09_From.f a0_0 a0_1).bind fun t => some (.agg #[.bool t.1, .int .i64 t.2]) := by
  unfold avermentlaw09_From.f
  simp only [cond_bind, Option.bind_assoc, some_bind, Option.bind_none]
  kernel_rfl
theorem avermentlaw09_From.rets (a0_0 : Bool) (a0_1 : Int) : ∀ t, avermentlaw09_From.f a0_0 a0_1 = some t → Rets Try.prog 58 [.agg #[.bool a0_0, .int .i64 a0_1]] (.agg #[.bool t.1, .int .i64 t.2]) := rets_of avermentlaw09_From.C_ok (by kernel_rfl) Try.func58 (by simp [flatB, aggB, leafB]) (avermentlaw09_From.eq a0_0 a0_1)
/-! ### avermentlaw10_From: function 59 -/
def avermentlaw10_From.f (a0_0 : Int) (a0_1 : Int) : Option (Int × Int) := some (a0_0, a0_1)
def avermentlaw10_From.C : CallsBy := noCalls
theorem avermentlaw10_From.C_ok : CallsOk Try.prog avermentlaw10_From.C := noCalls_ok
set_option maxRecDepth 1000000 in
set_option maxHeartbeats 4000000 in
theorem avermentlaw10_From.eq (a0_0 : Int) (a0_1 : Int) : runF Try.prog avermentlaw10_From.C (eqBy Try.prog) 20 Try.f59 [.agg #[.int .i64 a0_0, .int .i64 a0_1]] = (avermentlaw10_From.f a0_0 a0_1).bind fun t => some (.agg #[.int .i64 t.1, .int .i64 t.2]) := by
  unfold avermentlaw10_From.f
  simp only [cond_bind, Option.bind_assoc, some_bind, Option.bind_none]
  kernel_rfl
theorem avermentlaw10_From.rets (a0_0 : Int) (a0_1 : Int) : ∀ t, avermentlaw10_From.f a0_0 a0_1 = some t → Rets Try.prog 59 [.agg #[.int .i64 a0_0, .int .i64 a0_1]] (.agg #[.int .i64 t.1, .int .i64 t.2]) := rets_of avermentlaw10_From.C_ok (by kernel_rfl) Try.func59 (by simp [flatB, aggB, leafB]) (avermentlaw10_From.eq a0_0 a0_1)
/-! ### avermentlaw12_From: function 18 -/
def avermentlaw12_From.f (a0_0 : Int) (a0_1 : Bool) (a0_2 : Int) (a0_3 : Int) (a0_4 : Int) (a0_5 : Int) : Option (Int × Bool × Int × Int × Int × Int) := (avermentlaw09_From.f a0_1 a0_2).bind fun t => (avermentlaw10_From.f a0_3 a0_4).bind fun t_1 => some (a0_0, t.fst, t.snd, t_1.fst, t_1.snd, a0_5)
def avermentlaw12_From.C : CallsBy := entry 58 [.agg [.b, .i .i64]] (fun k (a0_0 : Bool) (a0_1 : Int) => (avermentlaw09_From.f a0_0 a0_1).bind fun t => k (.agg #[.bool t.1, .int .i64 t.2])) (entry 59 [.agg [.i .i64, .i .i64]] (fun k (a0_0 : Int) (a0_1 : Int) => (avermentlaw10_From.f a0_0 a0_1).bind fun t => k (.agg #[.int .i64 t.1, .int .i64 t.2])) (noCalls))
theorem avermentlaw12_From.C_ok : CallsOk Try.prog avermentlaw12_From.C := entry_ok (entry_ok (noCalls_ok) Try.func59 (by kernel_rfl) rfl (fun k a0_0 a0_1 => bind_rets (fun t ht => avermentlaw10_From.rets a0_0 a0_1 t ht) k)) Try.func58 (by kernel_rfl) rfl (fun k a0_0 a0_1 => bind_rets (fun t ht => avermentlaw09_From.rets a0_0 a0_1 t ht) k)
set_option maxRecDepth 1000000 in
set_option maxHeartbeats 4000000 in
theorem avermentlaw12_From.eq (a0_0 : Int) (a0_1 : Bool) (a0_2 : Int) (a0_3 : Int) (a0_4 : Int) (a0_5 : Int) : runF Try.prog avermentlaw12_From.C (eqBy Try.prog) 20 Try.f18 [.agg #[.int .i64 a0_0, .bool a0_1, .int .i64 a0_2, .int .i64 a0_3, .int .i64 a0_4, .int .i64 a0_5]] = (avermentlaw12_From.f a0_0 a0_1 a0_2 a0_3 a0_4 a0_5).bind fun t => some (.agg #[.int .i64 t.1, .bool t.2.1, .int .i64 t.2.2.1, .int .i64 t.2.2.2.1, .int .i64 t.2.2.2.2.1, .int .i64 t.2.2.2.2.2]) := by
  unfold avermentlaw12_From.f
  simp only [cond_bind, Option.bind_assoc, some_bind, Option.bind_none]
  kernel_rfl
theorem avermentlaw12_From.rets (a0_0 : Int) (a0_1 : Bool) (a0_2 : Int) (a0_3 : Int) (a0_4 : Int) (a0_5 : Int) : ∀ t, avermentlaw12_From.f a0_0 a0_1 a0_2 a0_3 a0_4 a0_5 = some t → Rets Try.prog 18 [.agg #[.int .i64 a0_0, .bool a0_1, .int .i64 a0_2, .int .i64 a0_3, .int .i64 a0_4, .int .i64 a0_5]] (.agg #[.int .i64 t.1, .bool t.2.1, .int .i64 t.2.2.1, .int .i64 t.2.2.2.1, .int .i64 t.2.2.2.2.1, .int .i64 t.2.2.2.2.2]) := rets_of avermentlaw12_From.C_ok (by kernel_rfl) Try.func18 (by simp [flatB, aggB, leafB]) (avermentlaw12_From.eq a0_0 a0_1 a0_2 a0_3 a0_4 a0_5)
/-! ### avermentref08_Of: function 64 -/
def avermentref08_Of.f (a0 : Int) : Option (Int) := bif decide (a0 < 0) then some 1 else bif a0 == 0 then some 2 else some 4
def avermentref08_Of.C : CallsBy := noCalls
theorem avermentref08_Of.C_ok : CallsOk Try.prog avermentref08_Of.C := noCalls_ok
set_option maxRecDepth 1000000 in
set_option maxHeartbeats 4000000 in
theorem avermentref08_Of.eq (a0 : Int) : runF Try.prog avermentref08_Of.C (eqBy Try.prog) 20 Try.f64 [.int .i64 a0] = (avermentref08_Of.f a0).bind fun t => some (.int .i64 t) := by
  unfold avermentref08_Of.f
  simp only [cond_bind, Option.bind_assoc, some_bind, Option.bind_none]
  kernel_rfl
theorem avermentref08_Of.rets (a0 : Int) : ∀ t, avermentref08_Of.f a0 = some t → Rets Try.prog 64 [.int .i64 a0] (.int .i64 t) := rets_of avermentref08_Of.C_ok (by kernel_rfl) Try.func64 (by simp [flatB, aggB, leafB]) (avermentref08_Of.eq a0)
/-! ### avermentref11_Of: function 65 -/
def avermentref11_Of.f (a0 : Int) : Option (Int) := bif a0.tmod 2 == 0 then some 1 else some 2
def avermentref11_Of.C : CallsBy := noCalls
theorem avermentref11_Of.C_ok : CallsOk Try.prog avermentref11_Of.C := noCalls_ok
set_option maxRecDepth 1000000 in
set_option maxHeartbeats 4000000 in
theorem avermentref11_Of.eq (a0 : Int) : runF Try.prog avermentref11_Of.C (eqBy Try.prog) 20 Try.f65 [.int .i64 a0] = (avermentref11_Of.f a0).bind fun t => some (.int .i64 t) := by
  unfold avermentref11_Of.f
  simp only [cond_bind, Option.bind_assoc, some_bind, Option.bind_none]
  kernel_rfl
theorem avermentref11_Of.rets (a0 : Int) : ∀ t, avermentref11_Of.f a0 = some t → Rets Try.prog 65 [.int .i64 a0] (.int .i64 t) := rets_of avermentref11_Of.C_ok (by kernel_rfl) Try.func65 (by simp [flatB, aggB, leafB]) (avermentref11_Of.eq a0)
/-! ### avermentref12_Of: function 20 -/
def avermentref12_Of.f (a0 : Int) : Option (Int × Bool × Int × Int × Int × Int) := (avermentref08_Of.f a0).bind fun t => (avermentref11_Of.f a0).bind fun t_1 => some (t, true, a0, a0, a0, t_1)
def avermentref12_Of.C : CallsBy := entry 64 [.one (.i .i64)] (fun k (a0 : Int) => (avermentref08_Of.f a0).bind fun t => k (.int .i64 t)) (entry 65 [.one (.i .i64)] (fun k (a0 : Int) => (avermentref11_Of.f a0).bind fun t => k (.int .i64 t)) (noCalls))
theorem avermentref12_Of.C_ok : CallsOk Try.prog avermentref12_Of.C := entry_ok (entry_ok (noCalls_ok) Try.func65 (by kernel_rfl) rfl (fun k a0 => bind_rets (fun t ht => avermentref11_Of.rets a0 t ht) k)) Try.func64 (by kernel_rfl) rfl (fun k a0 => bind_rets (fun t ht => avermentref08_Of.rets a0 t ht) k)
set_option maxRecDepth 1000000 in
set_option maxHeartbeats 4000000 in
theorem avermentref12_Of.eq (a0 : Int) : runF Try.prog avermentref12_Of.C (eqBy Try.prog) 20 Try.f20 [.int .i64 a0] = (avermentref12_Of.f a0).bind fun t => some (.agg #[.int .i64 t.1, .bool t.2.1, .int .i64 t.2.2.1, .int .i64 t.2.2.2.1, .int .i64 t.2.2.2.2.1, .int .i64 t.2.2.2.2.2]) := by
  unfold avermentref12_Of.f
  simp only [cond_bind, Option.bind_assoc, some_bind, Option.bind_none]
  kernel_rfl
theorem avermentref12_Of.rets (a0 : Int) : ∀ t, avermentref12_Of.f a0 = some t → Rets Try.prog 20 [.int .i64 a0] (.agg #[.int .i64 t.1, .bool t.2.1, .int .i64 t.2.2.1, .int .i64 t.2.2.2.1, .int .i64 t.2.2.2.2.1, .int .i64 t.2.2.2.2.2]) := rets_of avermentref12_Of.C_ok (by kernel_rfl) Try.func20 (by simp [flatB, aggB, leafB]) (avermentref12_Of.eq a0)
/-! ### avermentref10_Any: function 68 -/
def avermentref10_Any.f : Option (Int × Int) := some (-9223372036854775808, 9223372036854775807)
def avermentref10_Any.C : CallsBy := noCalls
theorem avermentref10_Any.C_ok : CallsOk Try.prog avermentref10_Any.C := noCalls_ok
set_option maxRecDepth 1000000 in
set_option maxHeartbeats 4000000 in
theorem avermentref10_Any.eq : runF Try.prog avermentref10_Any.C (eqBy Try.prog) 20 Try.f68 [] = (avermentref10_Any.f).bind fun t => some (.agg #[.int .i64 t.1, .int .i64 t.2]) := by
  unfold avermentref10_Any.f
  simp only [cond_bind, Option.bind_assoc, some_bind, Option.bind_none]
  kernel_rfl
theorem avermentref10_Any.rets : ∀ t, avermentref10_Any.f = some t → Rets Try.prog 68 [] (.agg #[.int .i64 t.1, .int .i64 t.2]) := rets_of avermentref10_Any.C_ok (by kernel_rfl) Try.func68 (by simp [flatB, aggB, leafB]) (avermentref10_Any.eq)
/-! ### avermentref12_Any: function 22 -/
def avermentref12_Any.f : Option (Int × Bool × Int × Int × Int × Int) := avermentref10_Any.f.bind fun t => some (7, false, 0, t.fst, t.snd, 3)
def avermentref12_Any.C : CallsBy := entry 68 [] (fun k => (avermentref10_Any.f).bind fun t => k (.agg #[.int .i64 t.1, .int .i64 t.2])) (noCalls)
theorem avermentref12_Any.C_ok : CallsOk Try.prog avermentref12_Any.C := entry_ok (noCalls_ok) Try.func68 (by kernel_rfl) rfl (fun k => bind_rets (fun t ht => avermentref10_Any.rets t ht) k)
set_option maxRecDepth 1000000 in
set_option maxHeartbeats 4000000 in
theorem avermentref12_Any.eq : runF Try.prog avermentref12_Any.C (eqBy Try.prog) 20 Try.f22 [] = (avermentref12_Any.f).bind fun t => some (.agg #[.int .i64 t.1, .bool t.2.1, .int .i64 t.2.2.1, .int .i64 t.2.2.2.1, .int .i64 t.2.2.2.2.1, .int .i64 t.2.2.2.2.2]) := by
  unfold avermentref12_Any.f
  simp only [cond_bind, Option.bind_assoc, some_bind, Option.bind_none]
  kernel_rfl
theorem avermentref12_Any.rets : ∀ t, avermentref12_Any.f = some t → Rets Try.prog 22 [] (.agg #[.int .i64 t.1, .bool t.2.1, .int .i64 t.2.2.1, .int .i64 t.2.2.2.1, .int .i64 t.2.2.2.2.1, .int .i64 t.2.2.2.2.2]) := rets_of avermentref12_Any.C_ok (by kernel_rfl) Try.func22 (by simp [flatB, aggB, leafB]) (avermentref12_Any.eq)
/-! ### sign_Has: function 69 -/
def sign_Has.f (a0 : Int) (a1 : Int) : Option (Bool) := (sign_Of.f a1).bind fun t => some (IntKind.i64.wrap ↑(BitVec.ofInt IntKind.i64.bits a0 &&& BitVec.ofInt IntKind.i64.bits t).toNat != 0)
def sign_Has.C : CallsBy := entry 60 [.one (.i .i64)] (fun k (a0 : Int) => (sign_Of.f a0).bind fun t => k (.int .i64 t)) (noCalls)
theorem sign_Has.C_ok : CallsOk Try.prog sign_Has.C := entry_ok (noCalls_ok) Try.func60 (by kernel_rfl) rfl (fun k a0 => bind_rets (fun t ht => sign_Of.rets a0 t ht) k)
set_option maxRecDepth 1000000 in
set_option maxHeartbeats 4000000 in
theorem sign_Has.eq (a0 : Int) (a1 : Int) : runF Try.prog sign_Has.C (eqBy Try.prog) 20 Try.f69 [.int .i64 a0, .int .i64 a1] = (sign_Has.f a0 a1).bind fun t => some (.bool t) := by
  unfold sign_Has.f
  simp only [cond_bind, Option.bind_assoc, some_bind, Option.bind_none]
  kernel_rfl
theorem sign_Has.rets (a0 : Int) (a1 : Int) : ∀ t, sign_Has.f a0 a1 = some t → Rets Try.prog 69 [.int .i64 a0, .int .i64 a1] (.bool t) := rets_of sign_Has.C_ok (by kernel_rfl) Try.func69 (by simp [flatB, aggB, leafB]) (sign_Has.eq a0 a1)
/-! ### span_Has: function 71 -/
def span_Has.f (a0_0 : Int) (a0_1 : Int) (a1 : Int) : Option (Bool) := bif decide (a0_0 ≤ a1) then some (decide (a1 ≤ a0_1)) else some false
def span_Has.C : CallsBy := noCalls
theorem span_Has.C_ok : CallsOk Try.prog span_Has.C := noCalls_ok
set_option maxRecDepth 1000000 in
set_option maxHeartbeats 4000000 in
theorem span_Has.eq (a0_0 : Int) (a0_1 : Int) (a1 : Int) : runF Try.prog span_Has.C (eqBy Try.prog) 20 Try.f71 [.agg #[.int .i64 a0_0, .int .i64 a0_1], .int .i64 a1] = (span_Has.f a0_0 a0_1 a1).bind fun t => some (.bool t) := by
  unfold span_Has.f
  simp only [cond_bind, Option.bind_assoc, some_bind, Option.bind_none]
  kernel_rfl
theorem span_Has.rets (a0_0 : Int) (a0_1 : Int) (a1 : Int) : ∀ t, span_Has.f a0_0 a0_1 a1 = some t → Rets Try.prog 71 [.agg #[.int .i64 a0_0, .int .i64 a0_1], .int .i64 a1] (.bool t) := rets_of span_Has.C_ok (by kernel_rfl) Try.func71 (by simp [flatB, aggB, leafB]) (span_Has.eq a0_0 a0_1 a1)
/-! ### parity_Has: function 72 -/
def parity_Has.f (a0 : Int) (a1 : Int) : Option (Bool) := (parity_Of.f a1).bind fun t => some (IntKind.i64.wrap ↑(BitVec.ofInt IntKind.i64.bits a0 &&& BitVec.ofInt IntKind.i64.bits t).toNat != 0)
def parity_Has.C : CallsBy := entry 63 [.one (.i .i64)] (fun k (a0 : Int) => (parity_Of.f a0).bind fun t => k (.int .i64 t)) (noCalls)
theorem parity_Has.C_ok : CallsOk Try.prog parity_Has.C := entry_ok (noCalls_ok) Try.func63 (by kernel_rfl) rfl (fun k a0 => bind_rets (fun t ht => parity_Of.rets a0 t ht) k)
set_option maxRecDepth 1000000 in
set_option maxHeartbeats 4000000 in
theorem parity_Has.eq (a0 : Int) (a1 : Int) : runF Try.prog parity_Has.C (eqBy Try.prog) 20 Try.f72 [.int .i64 a0, .int .i64 a1] = (parity_Has.f a0 a1).bind fun t => some (.bool t) := by
  unfold parity_Has.f
  simp only [cond_bind, Option.bind_assoc, some_bind, Option.bind_none]
  kernel_rfl
theorem parity_Has.rets (a0 : Int) (a1 : Int) : ∀ t, parity_Has.f a0 a1 = some t → Rets Try.prog 72 [.int .i64 a0, .int .i64 a1] (.bool t) := rets_of parity_Has.C_ok (by kernel_rfl) Try.func72 (by simp [flatB, aggB, leafB]) (parity_Has.eq a0 a1)
/-! ### fact_Has: function 23 -/
def fact_Has.f (a0_0 : Int) (a0_1 : Bool) (a0_2 : Int) (a0_3 : Int) (a0_4 : Int) (a0_5 : Int) (a1 : Int) : Option (Bool) := (sign_Has.f a0_0 a1).bind fun t => bif t then (known_Has.f a0_1 a0_2 a1).bind fun t => bif t then (span_Has.f a0_3 a0_4 a1).bind fun t => bif t then (parity_Has.f a0_5 a1).bind fun t => some t else some false else some false else some false
def fact_Has.C : CallsBy := entry 69 [.one (.i .i64), .one (.i .i64)] (fun k (a0 : Int) (a1 : Int) => (sign_Has.f a0 a1).bind fun t => k (.bool t)) (entry 70 [.agg [.b, .i .i64], .one (.i .i64)] (fun k (a0_0 : Bool) (a0_1 : Int) (a1 : Int) => (known_Has.f a0_0 a0_1 a1).bind fun t => k (.bool t)) (entry 71 [.agg [.i .i64, .i .i64], .one (.i .i64)] (fun k (a0_0 : Int) (a0_1 : Int) (a1 : Int) => (span_Has.f a0_0 a0_1 a1).bind fun t => k (.bool t)) (entry 72 [.one (.i .i64), .one (.i .i64)] (fun k (a0 : Int) (a1 : Int) => (parity_Has.f a0 a1).bind fun t => k (.bool t)) (noCalls))))
theorem fact_Has.C_ok : CallsOk Try.prog fact_Has.C := entry_ok (entry_ok (entry_ok (entry_ok (noCalls_ok) Try.func72 (by kernel_rfl) rfl (fun k a0 a1 => bind_rets (fun t ht => parity_Has.rets a0 a1 t ht) k)) Try.func71 (by kernel_rfl) rfl (fun k a0_0 a0_1 a1 => bind_rets (fun t ht => span_Has.rets a0_0 a0_1 a1 t ht) k)) Try.func70 (by kernel_rfl) rfl (fun k a0_0 a0_1 a1 => bind_rets (fun t ht => known_Has.rets a0_0 a0_1 a1 t ht) k)) Try.func69 (by kernel_rfl) rfl (fun k a0 a1 => bind_rets (fun t ht => sign_Has.rets a0 a1 t ht) k)
set_option maxRecDepth 1000000 in
set_option maxHeartbeats 4000000 in
theorem fact_Has.eq (a0_0 : Int) (a0_1 : Bool) (a0_2 : Int) (a0_3 : Int) (a0_4 : Int) (a0_5 : Int) (a1 : Int) : runF Try.prog fact_Has.C (eqBy Try.prog) 20 Try.f23 [.agg #[.int .i64 a0_0, .bool a0_1, .int .i64 a0_2, .int .i64 a0_3, .int .i64 a0_4, .int .i64 a0_5], .int .i64 a1] = (fact_Has.f a0_0 a0_1 a0_2 a0_3 a0_4 a0_5 a1).bind fun t => some (.bool t) := by
  unfold fact_Has.f
  simp only [cond_bind, Option.bind_assoc, some_bind, Option.bind_none]
  kernel_rfl
theorem fact_Has.rets (a0_0 : Int) (a0_1 : Bool) (a0_2 : Int) (a0_3 : Int) (a0_4 : Int) (a0_5 : Int) (a1 : Int) : ∀ t, fact_Has.f a0_0 a0_1 a0_2 a0_3 a0_4 a0_5 a1 = some t → Rets Try.prog 23 [.agg #[.int .i64 a0_0, .bool a0_1, .int .i64 a0_2, .int .i64 a0_3, .int .i64 a0_4, .int .i64 a0_5], .int .i64 a1] (.bool t) := rets_of fact_Has.C_ok (by kernel_rfl) Try.func23 (by simp [flatB, aggB, leafB]) (fact_Has.eq a0_0 a0_1 a0_2 a0_3 a0_4 a0_5 a1)
/-! ### avermentref08_Has: function 73 -/
def avermentref08_Has.f (a0 : Int) (a1 : Int) : Option (Bool) := (avermentref08_Of.f a1).bind fun t => some (IntKind.i64.wrap ↑(BitVec.ofInt IntKind.i64.bits a0 &&& BitVec.ofInt IntKind.i64.bits t).toNat != 0)
def avermentref08_Has.C : CallsBy := entry 64 [.one (.i .i64)] (fun k (a0 : Int) => (avermentref08_Of.f a0).bind fun t => k (.int .i64 t)) (noCalls)
theorem avermentref08_Has.C_ok : CallsOk Try.prog avermentref08_Has.C := entry_ok (noCalls_ok) Try.func64 (by kernel_rfl) rfl (fun k a0 => bind_rets (fun t ht => avermentref08_Of.rets a0 t ht) k)
set_option maxRecDepth 1000000 in
set_option maxHeartbeats 4000000 in
theorem avermentref08_Has.eq (a0 : Int) (a1 : Int) : runF Try.prog avermentref08_Has.C (eqBy Try.prog) 20 Try.f73 [.int .i64 a0, .int .i64 a1] = (avermentref08_Has.f a0 a1).bind fun t => some (.bool t) := by
  unfold avermentref08_Has.f
  simp only [cond_bind, Option.bind_assoc, some_bind, Option.bind_none]
  kernel_rfl
theorem avermentref08_Has.rets (a0 : Int) (a1 : Int) : ∀ t, avermentref08_Has.f a0 a1 = some t → Rets Try.prog 73 [.int .i64 a0, .int .i64 a1] (.bool t) := rets_of avermentref08_Has.C_ok (by kernel_rfl) Try.func73 (by simp [flatB, aggB, leafB]) (avermentref08_Has.eq a0 a1)
/-! ### avermentref09_Has: function 74 -/
def avermentref09_Has.f (a0_0 : Bool) (a0_1 : Int) (a1 : Int) : Option (Bool) := bif !a0_0 then some true else some (a0_1 == a1)
def avermentref09_Has.C : CallsBy := noCalls
theorem avermentref09_Has.C_ok : CallsOk Try.prog avermentref09_Has.C := noCalls_ok
set_option maxRecDepth 1000000 in
set_option maxHeartbeats 4000000 in
theorem avermentref09_Has.eq (a0_0 : Bool) (a0_1 : Int) (a1 : Int) : runF Try.prog avermentref09_Has.C (eqBy Try.prog) 20 Try.f74 [.agg #[.bool a0_0, .int .i64 a0_1], .int .i64 a1] = (avermentref09_Has.f a0_0 a0_1 a1).bind fun t => some (.bool t) := by
  unfold avermentref09_Has.f
  simp only [cond_bind, Option.bind_assoc, some_bind, Option.bind_none]
  kernel_rfl
theorem avermentref09_Has.rets (a0_0 : Bool) (a0_1 : Int) (a1 : Int) : ∀ t, avermentref09_Has.f a0_0 a0_1 a1 = some t → Rets Try.prog 74 [.agg #[.bool a0_0, .int .i64 a0_1], .int .i64 a1] (.bool t) := rets_of avermentref09_Has.C_ok (by kernel_rfl) Try.func74 (by simp [flatB, aggB, leafB]) (avermentref09_Has.eq a0_0 a0_1 a1)
/-! ### avermentref10_Has: function 75 -/
def avermentref10_Has.f (a0_0 : Int) (a0_1 : Int) (a1 : Int) : Option (Bool) := bif decide (a1 ≥ a0_0) then some (decide (a1 ≤ a0_1)) else some false
def avermentref10_Has.C : CallsBy := noCalls
theorem avermentref10_Has.C_ok : CallsOk Try.prog avermentref10_Has.C := noCalls_ok
set_option maxRecDepth 1000000 in
set_option maxHeartbeats 4000000 in
theorem avermentref10_Has.eq (a0_0 : Int) (a0_1 : Int) (a1 : Int) : runF Try.prog avermentref10_Has.C (eqBy Try.prog) 20 Try.f75 [.agg #[.int .i64 a0_0, .int .i64 a0_1], .int .i64 a1] = (avermentref10_Has.f a0_0 a0_1 a1).bind fun t => some (.bool t) := by
  unfold avermentref10_Has.f
  simp only [cond_bind, Option.bind_assoc, some_bind, Option.bind_none]
  kernel_rfl
theorem avermentref10_Has.rets (a0_0 : Int) (a0_1 : Int) (a1 : Int) : ∀ t, avermentref10_Has.f a0_0 a0_1 a1 = some t → Rets Try.prog 75 [.agg #[.int .i64 a0_0, .int .i64 a0_1], .int .i64 a1] (.bool t) := rets_of avermentref10_Has.C_ok (by kernel_rfl) Try.func75 (by simp [flatB, aggB, leafB]) (avermentref10_Has.eq a0_0 a0_1 a1)
/-! ### avermentref11_Has: function 76 -/
def avermentref11_Has.f (a0 : Int) (a1 : Int) : Option (Bool) := (avermentref11_Of.f a1).bind fun t => some (IntKind.i64.wrap ↑(BitVec.ofInt IntKind.i64.bits a0 &&& BitVec.ofInt IntKind.i64.bits t).toNat != 0)
def avermentref11_Has.C : CallsBy := entry 65 [.one (.i .i64)] (fun k (a0 : Int) => (avermentref11_Of.f a0).bind fun t => k (.int .i64 t)) (noCalls)
theorem avermentref11_Has.C_ok : CallsOk Try.prog avermentref11_Has.C := entry_ok (noCalls_ok) Try.func65 (by kernel_rfl) rfl (fun k a0 => bind_rets (fun t ht => avermentref11_Of.rets a0 t ht) k)
set_option maxRecDepth 1000000 in
set_option maxHeartbeats 4000000 in
theorem avermentref11_Has.eq (a0 : Int) (a1 : Int) : runF Try.prog avermentref11_Has.C (eqBy Try.prog) 20 Try.f76 [.int .i64 a0, .int .i64 a1] = (avermentref11_Has.f a0 a1).bind fun t => some (.bool t) := by
  unfold avermentref11_Has.f
  simp only [cond_bind, Option.bind_assoc, some_bind, Option.bind_none]
  kernel_rfl
theorem avermentref11_Has.rets (a0 : Int) (a1 : Int) : ∀ t, avermentref11_Has.f a0 a1 = some t → Rets Try.prog 76 [.int .i64 a0, .int .i64 a1] (.bool t) := rets_of avermentref11_Has.C_ok (by kernel_rfl) Try.func76 (by simp [flatB, aggB, leafB]) (avermentref11_Has.eq a0 a1)
/-! ### avermentref12_Has: function 24 -/
def avermentref12_Has.f (a0_0 : Int) (a0_1 : Bool) (a0_2 : Int) (a0_3 : Int) (a0_4 : Int) (a0_5 : Int) (a1 : Int) : Option (Bool) := (avermentref08_Has.f a0_0 a1).bind fun t => bif t then (avermentref09_Has.f a0_1 a0_2 a1).bind fun t => bif t then (avermentref10_Has.f a0_3 a0_4 a1).bind fun t => bif t then (avermentref11_Has.f a0_5 a1).bind fun t => some t else some false else some false else some false
def avermentref12_Has.C : CallsBy := entry 73 [.one (.i .i64), .one (.i .i64)] (fun k (a0 : Int) (a1 : Int) => (avermentref08_Has.f a0 a1).bind fun t => k (.bool t)) (entry 74 [.agg [.b, .i .i64], .one (.i .i64)] (fun k (a0_0 : Bool) (a0_1 : Int) (a1 : Int) => (avermentref09_Has.f a0_0 a0_1 a1).bind fun t => k (.bool t)) (entry 75 [.agg [.i .i64, .i .i64], .one (.i .i64)] (fun k (a0_0 : Int) (a0_1 : Int) (a1 : Int) => (avermentref10_Has.f a0_0 a0_1 a1).bind fun t => k (.bool t)) (entry 76 [.one (.i .i64), .one (.i .i64)] (fun k (a0 : Int) (a1 : Int) => (avermentref11_Has.f a0 a1).bind fun t => k (.bool t)) (noCalls))))
theorem avermentref12_Has.C_ok : CallsOk Try.prog avermentref12_Has.C := entry_ok (entry_ok (entry_ok (entry_ok (noCalls_ok) Try.func76 (by kernel_rfl) rfl (fun k a0 a1 => bind_rets (fun t ht => avermentref11_Has.rets a0 a1 t ht) k)) Try.func75 (by kernel_rfl) rfl (fun k a0_0 a0_1 a1 => bind_rets (fun t ht => avermentref10_Has.rets a0_0 a0_1 a1 t ht) k)) Try.func74 (by kernel_rfl) rfl (fun k a0_0 a0_1 a1 => bind_rets (fun t ht => avermentref09_Has.rets a0_0 a0_1 a1 t ht) k)) Try.func73 (by kernel_rfl) rfl (fun k a0 a1 => bind_rets (fun t ht => avermentref08_Has.rets a0 a1 t ht) k)
set_option maxRecDepth 1000000 in
set_option maxHeartbeats 4000000 in
theorem avermentref12_Has.eq (a0_0 : Int) (a0_1 : Bool) (a0_2 : Int) (a0_3 : Int) (a0_4 : Int) (a0_5 : Int) (a1 : Int) : runF Try.prog avermentref12_Has.C (eqBy Try.prog) 20 Try.f24 [.agg #[.int .i64 a0_0, .bool a0_1, .int .i64 a0_2, .int .i64 a0_3, .int .i64 a0_4, .int .i64 a0_5], .int .i64 a1] = (avermentref12_Has.f a0_0 a0_1 a0_2 a0_3 a0_4 a0_5 a1).bind fun t => some (.bool t) := by
  unfold avermentref12_Has.f
  simp only [cond_bind, Option.bind_assoc, some_bind, Option.bind_none]
  kernel_rfl
theorem avermentref12_Has.rets (a0_0 : Int) (a0_1 : Bool) (a0_2 : Int) (a0_3 : Int) (a0_4 : Int) (a0_5 : Int) (a1 : Int) : ∀ t, avermentref12_Has.f a0_0 a0_1 a0_2 a0_3 a0_4 a0_5 a1 = some t → Rets Try.prog 24 [.agg #[.int .i64 a0_0, .bool a0_1, .int .i64 a0_2, .int .i64 a0_3, .int .i64 a0_4, .int .i64 a0_5], .int .i64 a1] (.bool t) := rets_of avermentref12_Has.C_ok (by kernel_rfl) Try.func24 (by simp [flatB, aggB, leafB]) (avermentref12_Has.eq a0_0 a0_1 a0_2 a0_3 a0_4 a0_5 a1)
/-! ### avermentref09_Join: function 77 -/
def avermentref09_Join.f (a0_0 : Bool) (a0_1 : Int) (a1_0 : Bool) (a1_1 : Int) : Option (Bool × Int) := bif a0_0 then bif a1_0 then bif a0_1 == a1_1 then some (a0_0, a0_1) else some (false, 0) else some (false, 0) else some (false, 0)
def avermentref09_Join.C : CallsBy := noCalls
theorem avermentref09_Join.C_ok : CallsOk Try.prog avermentref09_Join.C := noCalls_ok
set_option maxRecDepth 1000000 in
set_option maxHeartbeats 4000000 in
theorem avermentref09_Join.eq (a0_0 : Bool) (a0_1 : Int) (a1_0 : Bool) (a1_1 : Int) : runF Try.prog avermentref09_Join.C (eqBy Try.prog) 20 Try.f77 [.agg #[.bool a0_0, .int .i64 a0_1], .agg #[.bool a1_0, .int .i64 a1_1]] = (avermentref09_Join.f a0_0 a0_1 a1_0 a1_1).bind fun t => some (.agg #[.bool t.1, .int .i64 t.2]) := by
  unfold avermentref09_Join.f
  simp only [cond_bind, Option.bind_assoc, some_bind, Option.bind_none]
  kernel_rfl
theorem avermentref09_Join.rets (a0_0 : Bool) (a0_1 : Int) (a1_0 : Bool) (a1_1 : Int) : ∀ t, avermentref09_Join.f a0_0 a0_1 a1_0 a1_1 = some t → Rets Try.prog 77 [.agg #[.bool a0_0, .int .i64 a0_1], .agg #[.bool a1_0, .int .i64 a1_1]] (.agg #[.bool t.1, .int .i64 t.2]) := rets_of avermentref09_Join.C_ok (by kernel_rfl) Try.func77 (by simp [flatB, aggB, leafB]) (avermentref09_Join.eq a0_0 a0_1 a1_0 a1_1)
/-! ### avermentref10_Join: function 78 -/
def avermentref10_Join.f (a0_0 : Int) (a0_1 : Int) (a1_0 : Int) (a1_1 : Int) : Option (Int × Int) := some (if a1_0 < a0_0 then a1_0 else a0_0, if a1_1 > a0_1 then a1_1 else a0_1)
def avermentref10_Join.C : CallsBy := noCalls
theorem avermentref10_Join.C_ok : CallsOk Try.prog avermentref10_Join.C := noCalls_ok
set_option maxRecDepth 1000000 in
set_option maxHeartbeats 4000000 in
theorem avermentref10_Join.eq (a0_0 : Int) (a0_1 : Int) (a1_0 : Int) (a1_1 : Int) : runF Try.prog avermentref10_Join.C (eqBy Try.prog) 20 Try.f78 [.agg #[.int .i64 a0_0, .int .i64 a0_1], .agg #[.int .i64 a1_0, .int .i64 a1_1]] = (avermentref10_Join.f a0_0 a0_1 a1_0 a1_1).bind fun t => some (.agg #[.int .i64 t.1, .int .i64 t.2]) := by
  unfold avermentref10_Join.f
  simp only [cond_bind, Option.bind_assoc, some_bind, Option.bind_none]
  kernel_rfl
theorem avermentref10_Join.rets (a0_0 : Int) (a0_1 : Int) (a1_0 : Int) (a1_1 : Int) : ∀ t, avermentref10_Join.f a0_0 a0_1 a1_0 a1_1 = some t → Rets Try.prog 78 [.agg #[.int .i64 a0_0, .int .i64 a0_1], .agg #[.int .i64 a1_0, .int .i64 a1_1]] (.agg #[.int .i64 t.1, .int .i64 t.2]) := rets_of avermentref10_Join.C_ok (by kernel_rfl) Try.func78 (by simp [flatB, aggB, leafB]) (avermentref10_Join.eq a0_0 a0_1 a1_0 a1_1)
/-! ### avermentref12_Join: function 25 -/
def avermentref12_Join.f (a0_0 : Int) (a0_1 : Bool) (a0_2 : Int) (a0_3 : Int) (a0_4 : Int) (a0_5 : Int) (a1_0 : Int) (a1_1 : Bool) (a1_2 : Int) (a1_3 : Int) (a1_4 : Int) (a1_5 : Int) : Option (Int × Bool × Int × Int × Int × Int) := (avermentref09_Join.f a0_1 a0_2 a1_1 a1_2).bind fun t => (avermentref10_Join.f a0_3 a0_4 a1_3 a1_4).bind fun t_1 => some (IntKind.i64.wrap ↑(BitVec.ofInt IntKind.i64.bits a0_0 ||| BitVec.ofInt IntKind.i64.bits a1_0).toNat, t.fst, t.snd, t_1.fst, t_1.snd, IntKind.i64.wrap ↑(BitVec.ofInt IntKind.i64.bits a0_5 ||| BitVec.ofInt IntKind.i64.bits a1_5).toNat)
def avermentref12_Join.C : CallsBy := entry 77 [.agg [.b, .i .i64], .agg [.b, .i .i64]] (fun k (a0_0 : Bool) (a0_1 : Int) (a1_0 : Bool) (a1_1 : Int) => (avermentref09_Join.f a0_0 a0_1 a1_0 a1_1).bind fun t => k (.agg #[.bool t.1, .int .i64 t.2])) (entry 78 [.agg [.i .i64, .i .i64], .agg [.i .i64, .i .i64]] (fun k (a0_0 : Int) (a0_1 : Int) (a1_0 : Int) (a1_1 : Int) => (avermentref10_Join.f a0_0 a0_1 a1_0 a1_1).bind fun t => k (.agg #[.int .i64 t.1, .int .i64 t.2])) (noCalls))
theorem avermentref12_Join.C_ok : CallsOk Try.prog avermentref12_Join.C := entry_ok (entry_ok (noCalls_ok) Try.func78 (by kernel_rfl) rfl (fun k a0_0 a0_1 a1_0 a1_1 => bind_rets (fun t ht => avermentref10_Join.rets a0_0 a0_1 a1_0 a1_1 t ht) k)) Try.func77 (by kernel_rfl) rfl (fun k a0_0 a0_1 a1_0 a1_1 => bind_rets (fun t ht => avermentref09_Join.rets a0_0 a0_1 a1_0 a1_1 t ht) k)
set_option maxRecDepth 1000000 in
set_option maxHeartbeats 4000000 in
theorem avermentref12_Join.eq (a0_0 : Int) (a0_1 : Bool) (a0_2 : Int) (a0_3 : Int) (a0_4 : Int) (a0_5 : Int) (a1_0 : Int) (a1_1 : Bool) (a1_2 : Int) (a1_3 : Int) (a1_4 : Int) (a1_5 : Int) : runF Try.prog avermentref12_Join.C (eqBy Try.prog) 20 Try.f25 [.agg #[.int .i64 a0_0, .bool a0_1, .int .i64 a0_2, .int .i64 a0_3, .int .i64 a0_4, .int .i64 a0_5], .agg #[.int .i64 a1_0, .bool a1_1, .int .i64 a1_2, .int .i64 a1_3, .int .i64 a1_4, .int .i64 a1_5]] = (avermentref12_Join.f a0_0 a0_1 a0_2 a0_3 a0_4 a0_5 a1_0 a1_1 a1_2 a1_3 a1_4 a1_5).bind fun t => some (.agg #[.int .i64 t.1, .bool t.2.1, .int .i64 t.2.2.1, .int .i64 t.2.2.2.1, .int .i64 t.2.2.2.2.1, .int .i64 t.2.2.2.2.2]) := by
  unfold avermentref12_Join.f
  simp only [cond_bind, Option.bind_assoc, some_bind, Option.bind_none]
  kernel_rfl
theorem avermentref12_Join.rets (a0_0 : Int) (a0_1 : Bool) (a0_2 : Int) (a0_3 : Int) (a0_4 : Int) (a0_5 : Int) (a1_0 : Int) (a1_1 : Bool) (a1_2 : Int) (a1_3 : Int) (a1_4 : Int) (a1_5 : Int) : ∀ t, avermentref12_Join.f a0_0 a0_1 a0_2 a0_3 a0_4 a0_5 a1_0 a1_1 a1_2 a1_3 a1_4 a1_5 = some t → Rets Try.prog 25 [.agg #[.int .i64 a0_0, .bool a0_1, .int .i64 a0_2, .int .i64 a0_3, .int .i64 a0_4, .int .i64 a0_5], .agg #[.int .i64 a1_0, .bool a1_1, .int .i64 a1_2, .int .i64 a1_3, .int .i64 a1_4, .int .i64 a1_5]] (.agg #[.int .i64 t.1, .bool t.2.1, .int .i64 t.2.2.1, .int .i64 t.2.2.2.1, .int .i64 t.2.2.2.2.1, .int .i64 t.2.2.2.2.2]) := rets_of avermentref12_Join.C_ok (by kernel_rfl) Try.func25 (by simp [flatB, aggB, leafB]) (avermentref12_Join.eq a0_0 a0_1 a0_2 a0_3 a0_4 a0_5 a1_0 a1_1 a1_2 a1_3 a1_4 a1_5)
/-! ### sign_Within: function 41 -/
def sign_Within.f (a0 : Int) (a1 : Int) : Option (Bool) := some (IntKind.i64.wrap ↑(BitVec.ofInt IntKind.i64.bits (IntKind.i64.wrap ↑(BitVec.ofInt IntKind.i64.bits a0 &&& ~~~BitVec.ofInt IntKind.i64.bits a1).toNat) &&& BitVec.ofInt IntKind.i64.bits 7).toNat == 0)
def sign_Within.C : CallsBy := noCalls
theorem sign_Within.C_ok : CallsOk Try.prog sign_Within.C := noCalls_ok
set_option maxRecDepth 1000000 in
set_option maxHeartbeats 4000000 in
theorem sign_Within.eq (a0 : Int) (a1 : Int) : runF Try.prog sign_Within.C (eqBy Try.prog) 20 Try.f41 [.int .i64 a0, .int .i64 a1] = (sign_Within.f a0 a1).bind fun t => some (.bool t) := by
  unfold sign_Within.f
  simp only [cond_bind, Option.bind_assoc, some_bind, Option.bind_none]
  kernel_rfl
theorem sign_Within.rets (a0 : Int) (a1 : Int) : ∀ t, sign_Within.f a0 a1 = some t → Rets Try.prog 41 [.int .i64 a0, .int .i64 a1] (.bool t) := rets_of sign_Within.C_ok (by kernel_rfl) Try.func41 (by simp [flatB, aggB, leafB]) (sign_Within.eq a0 a1)
/-! ### known_Within: function 42 -/
def known_Within.f (a0_0 : Bool) (a0_1 : Int) (a1_0 : Bool) (a1_1 : Int) : Option (Bool) := bif !a1_0 then some true else (known_Known_is.f a0_0 a0_1 a1_1).bind fun t => some t
def known_Within.C : CallsBy := entry 94 [.agg [.b, .i .i64], .one (.i .i64)] (fun k (a0_0 : Bool) (a0_1 : Int) (a1 : Int) => (known_Known_is.f a0_0 a0_1 a1).bind fun t => k (.bool t)) (noCalls)
theorem known_Within.C_ok : CallsOk Try.prog known_Within.C := entry_ok (noCalls_ok) Try.func94 (by kernel_rfl) rfl (fun k a0_0 a0_1 a1 => bind_rets (fun t ht => known_Known_is.rets a0_0 a0_1 a1 t ht) k)
set_option maxRecDepth 1000000 in
set_option maxHeartbeats 4000000 in
theorem known_Within.eq (a0_0 : Bool) (a0_1 : Int) (a1_0 : Bool) (a1_1 : Int) : runF Try.prog known_Within.C (eqBy Try.prog) 20 Try.f42 [.agg #[.bool a0_0, .int .i64 a0_1], .agg #[.bool a1_0, .int .i64 a1_1]] = (known_Within.f a0_0 a0_1 a1_0 a1_1).bind fun t => some (.bool t) := by
  unfold known_Within.f
  simp only [cond_bind, Option.bind_assoc, some_bind, Option.bind_none]
  kernel_rfl
theorem known_Within.rets (a0_0 : Bool) (a0_1 : Int) (a1_0 : Bool) (a1_1 : Int) : ∀ t, known_Within.f a0_0 a0_1 a1_0 a1_1 = some t → Rets Try.prog 42 [.agg #[.bool a0_0, .int .i64 a0_1], .agg #[.bool a1_0, .int .i64 a1_1]] (.bool t) := rets_of known_Within.C_ok (by kernel_rfl) Try.func42 (by simp [flatB, aggB, leafB]) (known_Within.eq a0_0 a0_1 a1_0 a1_1)
/-! ### span_Within: function 43 -/
def span_Within.f (a0_0 : Int) (a0_1 : Int) (a1_0 : Int) (a1_1 : Int) : Option (Bool) := bif decide (a0_0 ≥ a1_0) then some (decide (a0_1 ≤ a1_1)) else some false
def span_Within.C : CallsBy := noCalls
theorem span_Within.C_ok : CallsOk Try.prog span_Within.C := noCalls_ok
set_option maxRecDepth 1000000 in
set_option maxHeartbeats 4000000 in
theorem span_Within.eq (a0_0 : Int) (a0_1 : Int) (a1_0 : Int) (a1_1 : Int) : runF Try.prog span_Within.C (eqBy Try.prog) 20 Try.f43 [.agg #[.int .i64 a0_0, .int .i64 a0_1], .agg #[.int .i64 a1_0, .int .i64 a1_1]] = (span_Within.f a0_0 a0_1 a1_0 a1_1).bind fun t => some (.bool t) := by
  unfold span_Within.f
  simp only [cond_bind, Option.bind_assoc, some_bind, Option.bind_none]
  kernel_rfl
theorem span_Within.rets (a0_0 : Int) (a0_1 : Int) (a1_0 : Int) (a1_1 : Int) : ∀ t, span_Within.f a0_0 a0_1 a1_0 a1_1 = some t → Rets Try.prog 43 [.agg #[.int .i64 a0_0, .int .i64 a0_1], .agg #[.int .i64 a1_0, .int .i64 a1_1]] (.bool t) := rets_of span_Within.C_ok (by kernel_rfl) Try.func43 (by simp [flatB, aggB, leafB]) (span_Within.eq a0_0 a0_1 a1_0 a1_1)
/-! ### parity_Within: function 44 -/
def parity_Within.f (a0 : Int) (a1 : Int) : Option (Bool) := some (IntKind.i64.wrap ↑(BitVec.ofInt IntKind.i64.bits (IntKind.i64.wrap ↑(BitVec.ofInt IntKind.i64.bits a0 &&& ~~~BitVec.ofInt IntKind.i64.bits a1).toNat) &&& BitVec.ofInt IntKind.i64.bits 3).toNat == 0)
def parity_Within.C : CallsBy := noCalls
theorem parity_Within.C_ok : CallsOk Try.prog parity_Within.C := noCalls_ok
set_option maxRecDepth 1000000 in
set_option maxHeartbeats 4000000 in
theorem parity_Within.eq (a0 : Int) (a1 : Int) : runF Try.prog parity_Within.C (eqBy Try.prog) 20 Try.f44 [.int .i64 a0, .int .i64 a1] = (parity_Within.f a0 a1).bind fun t => some (.bool t) := by
  unfold parity_Within.f
  simp only [cond_bind, Option.bind_assoc, some_bind, Option.bind_none]
  kernel_rfl
theorem parity_Within.rets (a0 : Int) (a1 : Int) : ∀ t, parity_Within.f a0 a1 = some t → Rets Try.prog 44 [.int .i64 a0, .int .i64 a1] (.bool t) := rets_of parity_Within.C_ok (by kernel_rfl) Try.func44 (by simp [flatB, aggB, leafB]) (parity_Within.eq a0 a1)
/-! ### fact_Within: function 12 -/
def fact_Within.f (a0_0 : Int) (a0_1 : Bool) (a0_2 : Int) (a0_3 : Int) (a0_4 : Int) (a0_5 : Int) (a1_0 : Int) (a1_1 : Bool) (a1_2 : Int) (a1_3 : Int) (a1_4 : Int) (a1_5 : Int) : Option (Bool) := (sign_Within.f a0_0 a1_0).bind fun t => bif t then (known_Within.f a0_1 a0_2 a1_1 a1_2).bind fun t => bif t then (span_Within.f a0_3 a0_4 a1_3 a1_4).bind fun t => bif t then (parity_Within.f a0_5 a1_5).bind fun t => some t else some false else some false else some false
def fact_Within.C : CallsBy := entry 41 [.one (.i .i64), .one (.i .i64)] (fun k (a0 : Int) (a1 : Int) => (sign_Within.f a0 a1).bind fun t => k (.bool t)) (entry 42 [.agg [.b, .i .i64], .agg [.b, .i .i64]] (fun k (a0_0 : Bool) (a0_1 : Int) (a1_0 : Bool) (a1_1 : Int) => (known_Within.f a0_0 a0_1 a1_0 a1_1).bind fun t => k (.bool t)) (entry 43 [.agg [.i .i64, .i .i64], .agg [.i .i64, .i .i64]] (fun k (a0_0 : Int) (a0_1 : Int) (a1_0 : Int) (a1_1 : Int) => (span_Within.f a0_0 a0_1 a1_0 a1_1).bind fun t => k (.bool t)) (entry 44 [.one (.i .i64), .one (.i .i64)] (fun k (a0 : Int) (a1 : Int) => (parity_Within.f a0 a1).bind fun t => k (.bool t)) (noCalls))))
theorem fact_Within.C_ok : CallsOk Try.prog fact_Within.C := entry_ok (entry_ok (entry_ok (entry_ok (noCalls_ok) Try.func44 (by kernel_rfl) rfl (fun k a0 a1 => bind_rets (fun t ht => parity_Within.rets a0 a1 t ht) k)) Try.func43 (by kernel_rfl) rfl (fun k a0_0 a0_1 a1_0 a1_1 => bind_rets (fun t ht => span_Within.rets a0_0 a0_1 a1_0 a1_1 t ht) k)) Try.func42 (by kernel_rfl) rfl (fun k a0_0 a0_1 a1_0 a1_1 => bind_rets (fun t ht => known_Within.rets a0_0 a0_1 a1_0 a1_1 t ht) k)) Try.func41 (by kernel_rfl) rfl (fun k a0 a1 => bind_rets (fun t ht => sign_Within.rets a0 a1 t ht) k)
set_option maxRecDepth 1000000 in
set_option maxHeartbeats 4000000 in
theorem fact_Within.eq (a0_0 : Int) (a0_1 : Bool) (a0_2 : Int) (a0_3 : Int) (a0_4 : Int) (a0_5 : Int) (a1_0 : Int) (a1_1 : Bool) (a1_2 : Int) (a1_3 : Int) (a1_4 : Int) (a1_5 : Int) : runF Try.prog fact_Within.C (eqBy Try.prog) 20 Try.f12 [.agg #[.int .i64 a0_0, .bool a0_1, .int .i64 a0_2, .int .i64 a0_3, .int .i64 a0_4, .int .i64 a0_5], .agg #[.int .i64 a1_0, .bool a1_1, .int .i64 a1_2, .int .i64 a1_3, .int .i64 a1_4, .int .i64 a1_5]] = (fact_Within.f a0_0 a0_1 a0_2 a0_3 a0_4 a0_5 a1_0 a1_1 a1_2 a1_3 a1_4 a1_5).bind fun t => some (.bool t) := by
  unfold fact_Within.f
  simp only [cond_bind, Option.bind_assoc, some_bind, Option.bind_none]
  kernel_rfl
theorem fact_Within.rets (a0_0 : Int) (a0_1 : Bool) (a0_2 : Int) (a0_3 : Int) (a0_4 : Int) (a0_5 : Int) (a1_0 : Int) (a1_1 : Bool) (a1_2 : Int) (a1_3 : Int) (a1_4 : Int) (a1_5 : Int) : ∀ t, fact_Within.f a0_0 a0_1 a0_2 a0_3 a0_4 a0_5 a1_0 a1_1 a1_2 a1_3 a1_4 a1_5 = some t → Rets Try.prog 12 [.agg #[.int .i64 a0_0, .bool a0_1, .int .i64 a0_2, .int .i64 a0_3, .int .i64 a0_4, .int .i64 a0_5], .agg #[.int .i64 a1_0, .bool a1_1, .int .i64 a1_2, .int .i64 a1_3, .int .i64 a1_4, .int .i64 a1_5]] (.bool t) := rets_of fact_Within.C_ok (by kernel_rfl) Try.func12 (by simp [flatB, aggB, leafB]) (fact_Within.eq a0_0 a0_1 a0_2 a0_3 a0_4 a0_5 a1_0 a1_1 a1_2 a1_3 a1_4 a1_5)
/-! ### avermentref09_Within: function 79 -/
def avermentref09_Within.f (a0_0 : Bool) (a0_1 : Int) (a1_0 : Bool) (a1_1 : Int) : Option (Bool) := bif !a1_0 then some true else bif a0_0 then some (a0_1 == a1_1) else some false
def avermentref09_Within.C : CallsBy := noCalls
theorem avermentref09_Within.C_ok : CallsOk Try.prog avermentref09_Within.C := noCalls_ok
set_option maxRecDepth 1000000 in
set_option maxHeartbeats 4000000 in
theorem avermentref09_Within.eq (a0_0 : Bool) (a0_1 : Int) (a1_0 : Bool) (a1_1 : Int) : runF Try.prog avermentref09_Within.C (eqBy Try.prog) 20 Try.f79 [.agg #[.bool a0_0, .int .i64 a0_1], .agg #[.bool a1_0, .int .i64 a1_1]] = (avermentref09_Within.f a0_0 a0_1 a1_0 a1_1).bind fun t => some (.bool t) := by
  unfold avermentref09_Within.f
  simp only [cond_bind, Option.bind_assoc, some_bind, Option.bind_none]
  kernel_rfl
theorem avermentref09_Within.rets (a0_0 : Bool) (a0_1 : Int) (a1_0 : Bool) (a1_1 : Int) : ∀ t, avermentref09_Within.f a0_0 a0_1 a1_0 a1_1 = some t → Rets Try.prog 79 [.agg #[.bool a0_0, .int .i64 a0_1], .agg #[.bool a1_0, .int .i64 a1_1]] (.bool t) := rets_of avermentref09_Within.C_ok (by kernel_rfl) Try.func79 (by simp [flatB, aggB, leafB]) (avermentref09_Within.eq a0_0 a0_1 a1_0 a1_1)
/-! ### avermentref10_Within: function 80 -/
def avermentref10_Within.f (a0_0 : Int) (a0_1 : Int) (a1_0 : Int) (a1_1 : Int) : Option (Bool) := bif decide (a0_0 ≥ a1_0) then some (decide (a0_1 ≤ a1_1)) else some false
def avermentref10_Within.C : CallsBy := noCalls
theorem avermentref10_Within.C_ok : CallsOk Try.prog avermentref10_Within.C := noCalls_ok
set_option maxRecDepth 1000000 in
set_option maxHeartbeats 4000000 in
theorem avermentref10_Within.eq (a0_0 : Int) (a0_1 : Int) (a1_0 : Int) (a1_1 : Int) : runF Try.prog avermentref10_Within.C (eqBy Try.prog) 20 Try.f80 [.agg #[.int .i64 a0_0, .int .i64 a0_1], .agg #[.int .i64 a1_0, .int .i64 a1_1]] = (avermentref10_Within.f a0_0 a0_1 a1_0 a1_1).bind fun t => some (.bool t) := by
  unfold avermentref10_Within.f
  simp only [cond_bind, Option.bind_assoc, some_bind, Option.bind_none]
  kernel_rfl
theorem avermentref10_Within.rets (a0_0 : Int) (a0_1 : Int) (a1_0 : Int) (a1_1 : Int) : ∀ t, avermentref10_Within.f a0_0 a0_1 a1_0 a1_1 = some t → Rets Try.prog 80 [.agg #[.int .i64 a0_0, .int .i64 a0_1], .agg #[.int .i64 a1_0, .int .i64 a1_1]] (.bool t) := rets_of avermentref10_Within.C_ok (by kernel_rfl) Try.func80 (by simp [flatB, aggB, leafB]) (avermentref10_Within.eq a0_0 a0_1 a1_0 a1_1)
/-! ### avermentref12_Within: function 26 -/
def avermentref12_Within.f (a0_0 : Int) (a0_1 : Bool) (a0_2 : Int) (a0_3 : Int) (a0_4 : Int) (a0_5 : Int) (a1_0 : Int) (a1_1 : Bool) (a1_2 : Int) (a1_3 : Int) (a1_4 : Int) (a1_5 : Int) : Option (Bool) := bif IntKind.i64.wrap ↑(BitVec.ofInt IntKind.i64.bits a0_0 ||| BitVec.ofInt IntKind.i64.bits a1_0).toNat == a1_0 then (avermentref09_Within.f a0_1 a0_2 a1_1 a1_2).bind fun t => bif t then (avermentref10_Within.f a0_3 a0_4 a1_3 a1_4).bind fun t => bif t then some (IntKind.i64.wrap ↑(BitVec.ofInt IntKind.i64.bits a0_5 ||| BitVec.ofInt IntKind.i64.bits a1_5).toNat == a1_5) else some false else some false else some false
def avermentref12_Within.C : CallsBy := entry 79 [.agg [.b, .i .i64], .agg [.b, .i .i64]] (fun k (a0_0 : Bool) (a0_1 : Int) (a1_0 : Bool) (a1_1 : Int) => (avermentref09_Within.f a0_0 a0_1 a1_0 a1_1).bind fun t => k (.bool t)) (entry 80 [.agg [.i .i64, .i .i64], .agg [.i .i64, .i .i64]] (fun k (a0_0 : Int) (a0_1 : Int) (a1_0 : Int) (a1_1 : Int) => (avermentref10_Within.f a0_0 a0_1 a1_0 a1_1).bind fun t => k (.bool t)) (noCalls))
theorem avermentref12_Within.C_ok : CallsOk Try.prog avermentref12_Within.C := entry_ok (entry_ok (noCalls_ok) Try.func80 (by kernel_rfl) rfl (fun k a0_0 a0_1 a1_0 a1_1 => bind_rets (fun t ht => avermentref10_Within.rets a0_0 a0_1 a1_0 a1_1 t ht) k)) Try.func79 (by kernel_rfl) rfl (fun k a0_0 a0_1 a1_0 a1_1 => bind_rets (fun t ht => avermentref09_Within.rets a0_0 a0_1 a1_0 a1_1 t ht) k)
set_option maxRecDepth 1000000 in
set_option maxHeartbeats 4000000 in
theorem avermentref12_Within.eq (a0_0 : Int) (a0_1 : Bool) (a0_2 : Int) (a0_3 : Int) (a0_4 : Int) (a0_5 : Int) (a1_0 : Int) (a1_1 : Bool) (a1_2 : Int) (a1_3 : Int) (a1_4 : Int) (a1_5 : Int) : runF Try.prog avermentref12_Within.C (eqBy Try.prog) 20 Try.f26 [.agg #[.int .i64 a0_0, .bool a0_1, .int .i64 a0_2, .int .i64 a0_3, .int .i64 a0_4, .int .i64 a0_5], .agg #[.int .i64 a1_0, .bool a1_1, .int .i64 a1_2, .int .i64 a1_3, .int .i64 a1_4, .int .i64 a1_5]] = (avermentref12_Within.f a0_0 a0_1 a0_2 a0_3 a0_4 a0_5 a1_0 a1_1 a1_2 a1_3 a1_4 a1_5).bind fun t => some (.bool t) := by
  unfold avermentref12_Within.f
  simp only [cond_bind, Option.bind_assoc, some_bind, Option.bind_none]
  kernel_rfl
theorem avermentref12_Within.rets (a0_0 : Int) (a0_1 : Bool) (a0_2 : Int) (a0_3 : Int) (a0_4 : Int) (a0_5 : Int) (a1_0 : Int) (a1_1 : Bool) (a1_2 : Int) (a1_3 : Int) (a1_4 : Int) (a1_5 : Int) : ∀ t, avermentref12_Within.f a0_0 a0_1 a0_2 a0_3 a0_4 a0_5 a1_0 a1_1 a1_2 a1_3 a1_4 a1_5 = some t → Rets Try.prog 26 [.agg #[.int .i64 a0_0, .bool a0_1, .int .i64 a0_2, .int .i64 a0_3, .int .i64 a0_4, .int .i64 a0_5], .agg #[.int .i64 a1_0, .bool a1_1, .int .i64 a1_2, .int .i64 a1_3, .int .i64 a1_4, .int .i64 a1_5]] (.bool t) := rets_of avermentref12_Within.C_ok (by kernel_rfl) Try.func26 (by simp [flatB, aggB, leafB]) (avermentref12_Within.eq a0_0 a0_1 a0_2 a0_3 a0_4 a0_5 a1_0 a1_1 a1_2 a1_3 a1_4 a1_5)
/-! ### span_Widen: function 50 -/
def span_Widen.f (a0_0 : Int) (a0_1 : Int) (a1_0 : Int) (a1_1 : Int) : Option (Int × Int) := bif decide (a1_0 < a0_0) then bif decide (a1_1 > a0_1) then some (-9223372036854775808, 9223372036854775807) else some (-9223372036854775808, a0_1) else bif decide (a1_1 > a0_1) then some (a0_0, 9223372036854775807) else some (a0_0, a0_1)
def span_Widen.C : CallsBy := noCalls
theorem span_Widen.C_ok : CallsOk Try.prog span_Widen.C := noCalls_ok
set_option maxRecDepth 1000000 in
set_option maxHeartbeats 4000000 in
theorem span_Widen.eq (a0_0 : Int) (a0_1 : Int) (a1_0 : Int) (a1_1 : Int) : runF Try.prog span_Widen.C (eqBy Try.prog) 20 Try.f50 [.agg #[.int .i64 a0_0, .int .i64 a0_1], .agg #[.int .i64 a1_0, .int .i64 a1_1]] = (span_Widen.f a0_0 a0_1 a1_0 a1_1).bind fun t => some (.agg #[.int .i64 t.1, .int .i64 t.2]) := by
  unfold span_Widen.f
  simp only [cond_bind, Option.bind_assoc, some_bind, Option.bind_none]
  kernel_rfl
theorem span_Widen.rets (a0_0 : Int) (a0_1 : Int) (a1_0 : Int) (a1_1 : Int) : ∀ t, span_Widen.f a0_0 a0_1 a1_0 a1_1 = some t → Rets Try.prog 50 [.agg #[.int .i64 a0_0, .int .i64 a0_1], .agg #[.int .i64 a1_0, .int .i64 a1_1]] (.agg #[.int .i64 t.1, .int .i64 t.2]) := rets_of span_Widen.C_ok (by kernel_rfl) Try.func50 (by simp [flatB, aggB, leafB]) (span_Widen.eq a0_0 a0_1 a1_0 a1_1)
/-! ### fact_Widen: function 14 -/
def fact_Widen.f (a0_0 : Int) (a0_1 : Bool) (a0_2 : Int) (a0_3 : Int) (a0_4 : Int) (a0_5 : Int) (a1_0 : Int) (a1_1 : Bool) (a1_2 : Int) (a1_3 : Int) (a1_4 : Int) (a1_5 : Int) : Option (Int × Bool × Int × Int × Int × Int) := (fact_Join.f a0_0 a0_1 a0_2 a0_3 a0_4 a0_5 a1_0 a1_1 a1_2 a1_3 a1_4 a1_5).bind fun t => (span_Widen.f a0_3 a0_4 t.snd.snd.snd.fst t.snd.snd.snd.snd.fst).bind fun t_1 => some (t.fst, t.snd.fst, t.snd.snd.fst, t_1.fst, t_1.snd, t.snd.snd.snd.snd.snd)
def fact_Widen.C : CallsBy := entry 10 [.agg [.i .i64, .b, .i .i64, .i .i64, .i .i64, .i .i64], .agg [.i .i64, .b, .i .i64, .i .i64, .i .i64, .i .i64]] (fun k (a0_0 : Int) (a0_1 : Bool) (a0_2 : Int) (a0_3 : Int) (a0_4 : Int) (a0_5 : Int) (a1_0 : Int) (a1_1 : Bool) (a1_2 : Int) (a1_3 : Int) (a1_4 : Int) (a1_5 : Int) => (fact_Join.f a0_0 a0_1 a0_2 a0_3 a0_4 a0_5 a1_0 a1_1 a1_2 a1_3 a1_4 a1_5).bind fun t => k (.agg #[.int .i64 t.1, .bool t.2.1, .int .i64 t.2.2.1, .int .i64 t.2.2.2.1, .int .i64 t.2.2.2.2.1, .int .i64 t.2.2.2.2.2])) (entry 50 [.agg [.i .i64, .i .i64], .agg [.i .i64, .i .i64]] (fun k (a0_0 : Int) (a0_1 : Int) (a1_0 : Int) (a1_1 : Int) => (span_Widen.f a0_0 a0_1 a1_0 a1_1).bind fun t => k (.agg #[.int .i64 t.1, .int .i64 t.2])) (noCalls))
theorem fact_Widen.C_ok : CallsOk Try.prog fact_Widen.C := entry_ok (entry_ok (noCalls_ok) Try.func50 (by kernel_rfl) rfl (fun k a0_0 a0_1 a1_0 a1_1 => bind_rets (fun t ht => span_Widen.rets a0_0 a0_1 a1_0 a1_1 t ht) k)) Try.func10 (by kernel_rfl) rfl (fun k a0_0 a0_1 a0_2 a0_3 a0_4 a0_5 a1_0 a1_1 a1_2 a1_3 a1_4 a1_5 => bind_rets (fun t ht => fact_Join.rets a0_0 a0_1 a0_2 a0_3 a0_4 a0_5 a1_0 a1_1 a1_2 a1_3 a1_4 a1_5 t ht) k)
set_option maxRecDepth 1000000 in
set_option maxHeartbeats 4000000 in
theorem fact_Widen.eq (a0_0 : Int) (a0_1 : Bool) (a0_2 : Int) (a0_3 : Int) (a0_4 : Int) (a0_5 : Int) (a1_0 : Int) (a1_1 : Bool) (a1_2 : Int) (a1_3 : Int) (a1_4 : Int) (a1_5 : Int) : runF Try.prog fact_Widen.C (eqBy Try.prog) 20 Try.f14 [.agg #[.int .i64 a0_0, .bool a0_1, .int .i64 a0_2, .int .i64 a0_3, .int .i64 a0_4, .int .i64 a0_5], .agg #[.int .i64 a1_0, .bool a1_1, .int .i64 a1_2, .int .i64 a1_3, .int .i64 a1_4, .int .i64 a1_5]] = (fact_Widen.f a0_0 a0_1 a0_2 a0_3 a0_4 a0_5 a1_0 a1_1 a1_2 a1_3 a1_4 a1_5).bind fun t => some (.agg #[.int .i64 t.1, .bool t.2.1, .int .i64 t.2.2.1, .int .i64 t.2.2.2.1, .int .i64 t.2.2.2.2.1, .int .i64 t.2.2.2.2.2]) := by
  unfold fact_Widen.f
  simp only [cond_bind, Option.bind_assoc, some_bind, Option.bind_none]
  kernel_rfl
theorem fact_Widen.rets (a0_0 : Int) (a0_1 : Bool) (a0_2 : Int) (a0_3 : Int) (a0_4 : Int) (a0_5 : Int) (a1_0 : Int) (a1_1 : Bool) (a1_2 : Int) (a1_3 : Int) (a1_4 : Int) (a1_5 : Int) : ∀ t, fact_Widen.f a0_0 a0_1 a0_2 a0_3 a0_4 a0_5 a1_0 a1_1 a1_2 a1_3 a1_4 a1_5 = some t → Rets Try.prog 14 [.agg #[.int .i64 a0_0, .bool a0_1, .int .i64 a0_2, .int .i64 a0_3, .int .i64 a0_4, .int .i64 a0_5], .agg #[.int .i64 a1_0, .bool a1_1, .int .i64 a1_2, .int .i64 a1_3, .int .i64 a1_4, .int .i64 a1_5]] (.agg #[.int .i64 t.1, .bool t.2.1, .int .i64 t.2.2.1, .int .i64 t.2.2.2.1, .int .i64 t.2.2.2.2.1, .int .i64 t.2.2.2.2.2]) := rets_of fact_Widen.C_ok (by kernel_rfl) Try.func14 (by simp [flatB, aggB, leafB]) (fact_Widen.eq a0_0 a0_1 a0_2 a0_3 a0_4 a0_5 a1_0 a1_1 a1_2 a1_3 a1_4 a1_5)
/-! ### avermentref10_Widen: function 81 -/
def avermentref10_Widen.f (a0_0 : Int) (a0_1 : Int) (a1_0 : Int) (a1_1 : Int) : Option (Int × Int) := bif decide (a1_0 < a0_0) then bif decide (a1_1 > a0_1) then some (-9223372036854775808, 9223372036854775807) else some (-9223372036854775808, a0_1) else bif decide (a1_1 > a0_1) then some (a0_0, 9223372036854775807) else some (a0_0, a0_1)
def avermentref10_Widen.C : CallsBy := noCalls
theorem avermentref10_Widen.C_ok : CallsOk Try.prog avermentref10_Widen.C := noCalls_ok
set_option maxRecDepth 1000000 in
set_option maxHeartbeats 4000000 in
theorem avermentref10_Widen.eq (a0_0 : Int) (a0_1 : Int) (a1_0 : Int) (a1_1 : Int) : runF Try.prog avermentref10_Widen.C (eqBy Try.prog) 20 Try.f81 [.agg #[.int .i64 a0_0, .int .i64 a0_1], .agg #[.int .i64 a1_0, .int .i64 a1_1]] = (avermentref10_Widen.f a0_0 a0_1 a1_0 a1_1).bind fun t => some (.agg #[.int .i64 t.1, .int .i64 t.2]) := by
  unfold avermentref10_Widen.f
  simp only [cond_bind, Option.bind_assoc, some_bind, Option.bind_none]
  kernel_rfl
theorem avermentref10_Widen.rets (a0_0 : Int) (a0_1 : Int) (a1_0 : Int) (a1_1 : Int) : ∀ t, avermentref10_Widen.f a0_0 a0_1 a1_0 a1_1 = some t → Rets Try.prog 81 [.agg #[.int .i64 a0_0, .int .i64 a0_1], .agg #[.int .i64 a1_0, .int .i64 a1_1]] (.agg #[.int .i64 t.1, .int .i64 t.2]) := rets_of avermentref10_Widen.C_ok (by kernel_rfl) Try.func81 (by simp [flatB, aggB, leafB]) (avermentref10_Widen.eq a0_0 a0_1 a1_0 a1_1)
/-! ### avermentref12_Widen: function 27 -/
def avermentref12_Widen.f (a0_0 : Int) (a0_1 : Bool) (a0_2 : Int) (a0_3 : Int) (a0_4 : Int) (a0_5 : Int) (a1_0 : Int) (a1_1 : Bool) (a1_2 : Int) (a1_3 : Int) (a1_4 : Int) (a1_5 : Int) : Option (Int × Bool × Int × Int × Int × Int) := (avermentref12_Join.f a0_0 a0_1 a0_2 a0_3 a0_4 a0_5 a1_0 a1_1 a1_2 a1_3 a1_4 a1_5).bind fun t => (avermentref10_Widen.f a0_3 a0_4 t.snd.snd.snd.fst t.snd.snd.snd.snd.fst).bind fun t_1 => some (t.fst, t.snd.fst, t.snd.snd.fst, t_1.fst, t_1.snd, t.snd.snd.snd.snd.snd)
def avermentref12_Widen.C : CallsBy := entry 25 [.agg [.i .i64, .b, .i .i64, .i .i64, .i .i64, .i .i64], .agg [.i .i64, .b, .i .i64, .i .i64, .i .i64, .i .i64]] (fun k (a0_0 : Int) (a0_1 : Bool) (a0_2 : Int) (a0_3 : Int) (a0_4 : Int) (a0_5 : Int) (a1_0 : Int) (a1_1 : Bool) (a1_2 : Int) (a1_3 : Int) (a1_4 : Int) (a1_5 : Int) => (avermentref12_Join.f a0_0 a0_1 a0_2 a0_3 a0_4 a0_5 a1_0 a1_1 a1_2 a1_3 a1_4 a1_5).bind fun t => k (.agg #[.int .i64 t.1, .bool t.2.1, .int .i64 t.2.2.1, .int .i64 t.2.2.2.1, .int .i64 t.2.2.2.2.1, .int .i64 t.2.2.2.2.2])) (entry 81 [.agg [.i .i64, .i .i64], .agg [.i .i64, .i .i64]] (fun k (a0_0 : Int) (a0_1 : Int) (a1_0 : Int) (a1_1 : Int) => (avermentref10_Widen.f a0_0 a0_1 a1_0 a1_1).bind fun t => k (.agg #[.int .i64 t.1, .int .i64 t.2])) (noCalls))
theorem avermentref12_Widen.C_ok : CallsOk Try.prog avermentref12_Widen.C := entry_ok (entry_ok (noCalls_ok) Try.func81 (by kernel_rfl) rfl (fun k a0_0 a0_1 a1_0 a1_1 => bind_rets (fun t ht => avermentref10_Widen.rets a0_0 a0_1 a1_0 a1_1 t ht) k)) Try.func25 (by kernel_rfl) rfl (fun k a0_0 a0_1 a0_2 a0_3 a0_4 a0_5 a1_0 a1_1 a1_2 a1_3 a1_4 a1_5 => bind_rets (fun t ht => avermentref12_Join.rets a0_0 a0_1 a0_2 a0_3 a0_4 a0_5 a1_0 a1_1 a1_2 a1_3 a1_4 a1_5 t ht) k)
set_option maxRecDepth 1000000 in
set_option maxHeartbeats 4000000 in
theorem avermentref12_Widen.eq (a0_0 : Int) (a0_1 : Bool) (a0_2 : Int) (a0_3 : Int) (a0_4 : Int) (a0_5 : Int) (a1_0 : Int) (a1_1 : Bool) (a1_2 : Int) (a1_3 : Int) (a1_4 : Int) (a1_5 : Int) : runF Try.prog avermentref12_Widen.C (eqBy Try.prog) 20 Try.f27 [.agg #[.int .i64 a0_0, .bool a0_1, .int .i64 a0_2, .int .i64 a0_3, .int .i64 a0_4, .int .i64 a0_5], .agg #[.int .i64 a1_0, .bool a1_1, .int .i64 a1_2, .int .i64 a1_3, .int .i64 a1_4, .int .i64 a1_5]] = (avermentref12_Widen.f a0_0 a0_1 a0_2 a0_3 a0_4 a0_5 a1_0 a1_1 a1_2 a1_3 a1_4 a1_5).bind fun t => some (.agg #[.int .i64 t.1, .bool t.2.1, .int .i64 t.2.2.1, .int .i64 t.2.2.2.1, .int .i64 t.2.2.2.2.1, .int .i64 t.2.2.2.2.2]) := by
  unfold avermentref12_Widen.f
  simp only [cond_bind, Option.bind_assoc, some_bind, Option.bind_none]
  kernel_rfl
theorem avermentref12_Widen.rets (a0_0 : Int) (a0_1 : Bool) (a0_2 : Int) (a0_3 : Int) (a0_4 : Int) (a0_5 : Int) (a1_0 : Int) (a1_1 : Bool) (a1_2 : Int) (a1_3 : Int) (a1_4 : Int) (a1_5 : Int) : ∀ t, avermentref12_Widen.f a0_0 a0_1 a0_2 a0_3 a0_4 a0_5 a1_0 a1_1 a1_2 a1_3 a1_4 a1_5 = some t → Rets Try.prog 27 [.agg #[.int .i64 a0_0, .bool a0_1, .int .i64 a0_2, .int .i64 a0_3, .int .i64 a0_4, .int .i64 a0_5], .agg #[.int .i64 a1_0, .bool a1_1, .int .i64 a1_2, .int .i64 a1_3, .int .i64 a1_4, .int .i64 a1_5]] (.agg #[.int .i64 t.1, .bool t.2.1, .int .i64 t.2.2.1, .int .i64 t.2.2.2.1, .int .i64 t.2.2.2.2.1, .int .i64 t.2.2.2.2.2]) := rets_of avermentref12_Widen.C_ok (by kernel_rfl) Try.func27 (by simp [flatB, aggB, leafB]) (avermentref12_Widen.eq a0_0 a0_1 a0_2 a0_3 a0_4 a0_5 a1_0 a1_1 a1_2 a1_3 a1_4 a1_5)
/-! ### avermentlaw12_FactSets: function 5 -/
def avermentlaw12_FactSets.f (a0_0 : Int) (a0_1 : Bool) (a0_2 : Int) (a0_3 : Int) (a0_4 : Int) (a0_5 : Int) (a1_0 : Int) (a1_1 : Bool) (a1_2 : Int) (a1_3 : Int) (a1_4 : Int) (a1_5 : Int) (a2 : Int) : Option (Bool) := (avermentlaw12_To.f a0_0 a0_1 a0_2 a0_3 a0_4 a0_5).bind fun t => (fact_Right.f t.fst t.snd.fst t.snd.snd.fst t.snd.snd.snd.fst t.snd.snd.snd.snd.fst t.snd.snd.snd.snd.snd).bind fun t => (avermentref12_Right.f a0_0 a0_1 a0_2 a0_3 a0_4 a0_5).bind fun t_1 => (avermentref12_Fix.f a0_0 a0_1 a0_2 a0_3 a0_4 a0_5).bind fun t_2 => (avermentref12_Fix.f a1_0 a1_1 a1_2 a1_3 a1_4 a1_5).bind fun t_3 => (avermentlaw12_To.f t_2.fst t_2.snd.fst t_2.snd.snd.fst t_2.snd.snd.snd.fst t_2.snd.snd.snd.snd.fst t_2.snd.snd.snd.snd.snd).bind fun t_4 => (avermentlaw12_To.f t_3.fst t_3.snd.fst t_3.snd.snd.fst t_3.snd.snd.snd.fst t_3.snd.snd.snd.snd.fst t_3.snd.snd.snd.snd.snd).bind fun t_5 => (fact_Meet.f t_4.fst t_4.snd.fst t_4.snd.snd.fst t_4.snd.snd.snd.fst t_4.snd.snd.snd.snd.fst t_4.snd.snd.snd.snd.snd t_5.fst t_5.snd.fst t_5.snd.snd.fst t_5.snd.snd.snd.fst t_5.snd.snd.snd.snd.fst t_5.snd.snd.snd.snd.snd).bind fun t_6 => (avermentref12_Meet.f t_2.fst t_2.snd.fst t_2.snd.snd.fst t_2.snd.snd.snd.fst t_2.snd.snd.snd.snd.fst t_2.snd.snd.snd.snd.snd t_3.fst t_3.snd.fst t_3.snd.snd.fst t_3.snd.snd.snd.fst t_3.snd.snd.snd.snd.fst t_3.snd.snd.snd.snd.snd).bind fun t_7 => avermentlaw12_told.f.bind fun t_8 => bif !t_8 then some false else bif !t == t_1 then some false else (avermentlaw12_From.f t_6.fst t_6.snd.fst t_6.snd.snd.fst t_6.snd.snd.snd.fst t_6.snd.snd.snd.snd.fst t_6.snd.snd.snd.snd.snd.fst).bind fun t => bif !(t.fst == t_7.fst && (t.snd.fst == t_7.snd.fst && t.snd.snd.fst == t_7.snd.snd.fst && (t.snd.snd.snd.fst == t_7.snd.snd.snd.fst && t.snd.snd.snd.snd.fst == t_7.snd.snd.snd.snd.fst && t.snd.snd.snd.snd.snd == t_7.snd.snd.snd.snd.snd.fst))) then some false else bif !t_6.snd.snd.snd.snd.snd.snd == t_7.snd.snd.snd.snd.snd.snd then some false else (fact_Of.f a2).bind fun t => (avermentlaw12_From.f t.fst t.snd.fst t.snd.snd.fst t.snd.snd.snd.fst t.snd.snd.snd.snd.fst t.snd.snd.snd.snd.snd).bind fun t => (avermentref12_Of.f a2).bind fun t_9 => bif t.fst == t_9.fst && (t.snd.fst == t_9.snd.fst && t.snd.snd.fst == t_9.snd.snd.fst && (t.snd.snd.snd.fst == t_9.snd.snd.snd.fst && t.snd.snd.snd.snd.fst == t_9.snd.snd.snd.snd.fst && t.snd.snd.snd.snd.snd == t_9.snd.snd.snd.snd.snd)) then fact_Any.f.bind fun t => (avermentlaw12_From.f t.fst t.snd.fst t.snd.snd.fst t.snd.snd.snd.fst t.snd.snd.snd.snd.fst t.snd.snd.snd.snd.snd).bind fun t => avermentref12_Any.f.bind fun t_10 => bif t.fst == t_10.fst && (t.snd.fst == t_10.snd.fst && t.snd.snd.fst == t_10.snd.snd.fst && (t.snd.snd.snd.fst == t_10.snd.snd.snd.fst && t.snd.snd.snd.snd.fst == t_10.snd.snd.snd.snd.fst && t.snd.snd.snd.snd.snd == t_10.snd.snd.snd.snd.snd)) then (avermentlaw12_To.f t_2.fst t_2.snd.fst t_2.snd.snd.fst t_2.snd.snd.snd.fst t_2.snd.snd.snd.snd.fst t_2.snd.snd.snd.snd.snd).bind fun t => (fact_Has.f t.fst t.snd.fst t.snd.snd.fst t.snd.snd.snd.fst t.snd.snd.snd.snd.fst t.snd.snd.snd.snd.snd a2).bind fun t => (avermentref12_Has.f t_2.fst t_2.snd.fst t_2.snd.snd.fst t_2.snd.snd.snd.fst t_2.snd.snd.snd.snd.fst t_2.snd.snd.snd.snd.snd a2).bind fun t_11 => bif t == t_11 then (avermentlaw12_To.f t_2.fst t_2.snd.fst t_2.snd.snd.fst t_2.snd.snd.snd.fst t_2.snd.snd.snd.snd.fst t_2.snd.snd.snd.snd.snd).bind fun t => (avermentlaw12_To.f t_3.fst t_3.snd.fst t_3.snd.snd.fst t_3.snd.snd.snd.fst t_3.snd.snd.snd.snd.fst t_3.snd.snd.snd.snd.snd).bind fun t_12 => (fact_Join.f t.fst t.snd.fst t.snd.snd.fst t.snd.snd.snd.fst t.snd.snd.snd.snd.fst t.snd.snd.snd.snd.snd t_12.fst t_12.snd.fst t_12.snd.snd.fst t_12.snd.snd.snd.fst t_12.snd.snd.snd.snd.fst t_12.snd.snd.snd.snd.snd).bind fun t => (avermentlaw12_From.f t.fst t.snd.fst t.snd.snd.fst t.snd.snd.snd.fst t.snd.snd.snd.snd.fst t.snd.snd.snd.snd.snd).bind fun t => (avermentref12_Join.f t_2.fst t_2.snd.fst t_2.snd.snd.fst t_2.snd.snd.snd.fst t_2.snd.snd.snd.snd.fst t_2.snd.snd.snd.snd.snd t_3.fst t_3.snd.fst t_3.snd.snd.fst t_3.snd.snd.snd.fst t_3.snd.snd.snd.snd.fst t_3.snd.snd.snd.snd.snd).bind fun t_13 => bif t.fst == t_13.fst && (t.snd.fst == t_13.snd.fst && t.snd.snd.fst == t_13.snd.snd.fst && (t.snd.snd.snd.fst == t_13.snd.snd.snd.fst && t.snd.snd.snd.snd.fst == t_13.snd.snd.snd.snd.fst && t.snd.snd.snd.snd.snd == t_13.snd.snd.snd.snd.snd)) then (avermentlaw12_To.f t_2.fst t_2.snd.fst t_2.snd.snd.fst t_2.snd.snd.snd.fst t_2.snd.snd.snd.snd.fst t_2.snd.snd.snd.snd.snd).bind fun t => (avermentlaw12_To.f t_3.fst t_3.snd.fst t_3.snd.snd.fst t_3.snd.snd.snd.fst t_3.snd.snd.snd.snd.fst t_3.snd.snd.snd.snd.snd).bind fun t_14 => (fact_Within.f t.fst t.snd.fst t.snd.snd.fst t.snd.snd.snd.fst t.snd.snd.snd.snd.fst t.snd.snd.snd.snd.snd t_14.fst t_14.snd.fst t_14.snd.snd.fst t_14.snd.snd.snd.fst t_14.snd.snd.snd.snd.fst t_14.snd.snd.snd.snd.snd).bind fun t => (avermentref12_Within.f t_2.fst t_2.snd.fst t_2.snd.snd.fst t_2.snd.snd.snd.fst t_2.snd.snd.snd.snd.fst t_2.snd.snd.snd.snd.snd t_3.fst t_3.snd.fst t_3.snd.snd.fst t_3.snd.snd.snd.fst t_3.snd.snd.snd.snd.fst t_3.snd.snd.snd.snd.snd).bind fun t_15 => bif t == t_15 then (avermentlaw12_To.f t_2.fst t_2.snd.fst t_2.snd.snd.fst t_2.snd.snd.snd.fst t_2.snd.snd.snd.snd.fst t_2.snd.snd.snd.snd.snd).bind fun t => (avermentlaw12_To.f t_3.fst t_3.snd.fst t_3.snd.snd.fst t_3.snd.snd.snd.fst t_3.snd.snd.snd.snd.fst t_3.snd.snd.snd.snd.snd).bind fun t_16 => (fact_Widen.f t.fst t.snd.fst t.snd.snd.fst t.snd.snd.snd.fst t.snd.snd.snd.snd.fst t.snd.snd.snd.snd.snd t_16.fst t_16.snd.fst t_16.snd.snd.fst t_16.snd.snd.snd.fst t_16.snd.snd.snd.snd.fst t_16.snd.snd.snd.snd.snd).bind fun t => (avermentlaw12_From.f t.fst t.snd.fst t.snd.snd.fst t.snd.snd.snd.fst t.snd.snd.snd.snd.fst t.snd.snd.snd.snd.snd).bind fun t => (avermentref12_Widen.f t_2.fst t_2.snd.fst t_2.snd.snd.fst t_2.snd.snd.snd.fst t_2.snd.snd.snd.snd.fst t_2.snd.snd.snd.snd.snd t_3.fst t_3.snd.fst t_3.snd.snd.fst t_3.snd.snd.snd.fst t_3.snd.snd.snd.snd.fst t_3.snd.snd.snd.snd.snd).bind fun t_17 => some (t.fst == t_17.fst && (t.snd.fst == t_17.snd.fst && t.snd.snd.fst == t_17.snd.snd.fst && (t.snd.snd.snd.fst == t_17.snd.snd.snd.fst && t.snd.snd.snd.snd.fst == t_17.snd.snd.snd.snd.fst && t.snd.snd.snd.snd.snd == t_17.snd.snd.snd.snd.snd))) else some false else some false else some false else some false else some false
def avermentlaw12_FactSets.C : CallsBy := entry 8 [.agg [.i .i64, .b, .i .i64, .i .i64, .i .i64, .i .i64]] (fun k (a0_0 : Int) (a0_1 : Bool) (a0_2 : Int) (a0_3 : Int) (a0_4 : Int) (a0_5 : Int) => (avermentlaw12_To.f a0_0 a0_1 a0_2 a0_3 a0_4 a0_5).bind fun t => k (.agg #[.int .i64 t.1, .bool t.2.1, .int .i64 t.2.2.1, .int .i64 t.2.2.2.1, .int .i64 t.2.2.2.2.1, .int .i64 t.2.2.2.2.2])) (entry 15 [.agg [.i .i64, .b, .i .i64, .i .i64, .i .i64, .i .i64]] (fun k (a0_0 : Int) (a0_1 : Bool) (a0_2 : Int) (a0_3 : Int) (a0_4 : Int) (a0_5 : Int) => (fact_Right.f a0_0 a0_1 a0_2 a0_3 a0_4 a0_5).bind fun t => k (.bool t)) (entry 16 [.agg [.i .i64, .b, .i .i64, .i .i64, .i .i64, .i .i64]] (fun k (a0_0 : Int) (a0_1 : Bool) (a0_2 : Int) (a0_3 : Int) (a0_4 : Int) (a0_5 : Int) => (avermentref12_Right.f a0_0 a0_1 a0_2 a0_3 a0_4 a0_5).bind fun t => k (.bool t)) (entry 9 [.agg [.i .i64, .b, .i .i64, .i .i64, .i .i64, .i .i64]] (fun k (a0_0 : Int) (a0_1 : Bool) (a0_2 : Int) (a0_3 : Int) (a0_4 : Int) (a0_5 : Int) => (avermentref12_Fix.f a0_0 a0_1 a0_2 a0_3 a0_4 a0_5).bind fun t => k (.agg #[.int .i64 t.1, .bool t.2.1, .int .i64 t.2.2.1, .int .i64 t.2.2.2.1, .int .i64 t.2.2.2.2.1, .int .i64 t.2.2.2.2.2])) (entry 13 [.agg [.i .i64, .b, .i .i64, .i .i64, .i .i64, .i .i64], .agg [.i .i64, .b, .i .i64, .i .i64, .i .i64, .i .i64]] (fun k (a0_0 : Int) (a0_1 : Bool) (a0_2 : Int) (a0_3 : Int) (a0_4 : Int) (a0_5 : Int) (a1_0 : Int) (a1_1 : Bool) (a1_2 : Int) (a1_3 : Int) (a1_4 : Int) (a1_5 : Int) => (fact_Meet.f a0_0 a0_1 a0_2 a0_3 a0_4 a0_5 a1_0 a1_1 a1_2 a1_3 a1_4 a1_5).bind fun t => k (.tuple #[.agg #[.int .i64 t.1, .bool t.2.1, .int .i64 t.2.2.1, .int .i64 t.2.2.2.1, .int .i64 t.2.2.2.2.1, .int .i64 t.2.2.2.2.2.1], .bool t.2.2.2.2.2.2])) (entry 17 [.agg [.i .i64, .b, .i .i64, .i .i64, .i .i64, .i .i64], .agg [.i .i64, .b, .i .i64, .i .i64, .i .i64, .i .i64]] (fun k (a0_0 : Int) (a0_1 : Bool) (a0_2 : Int) (a0_3 : Int) (a0_4 : Int) (a0_5 : Int) (a1_0 : Int) (a1_1 : Bool) (a1_2 : Int) (a1_3 : Int) (a1_4 : Int) (a1_5 : Int) => (avermentref12_Meet.f a0_0 a0_1 a0_2 a0_3 a0_4 a0_5 a1_0 a1_1 a1_2 a1_3 a1_4 a1_5).bind fun t => k (.tuple #[.agg #[.int .i64 t.1, .bool t.2.1, .int .i64 t.2.2.1, .int .i64 t.2.2.2.1, .int .i64 t.2.2.2.2.1, .int .i64 t.2.2.2.2.2.1], .bool t.2.2.2.2.2.2])) (entry 11 [] (fun k => (avermentlaw12_told.f).bind fun t => k (.bool t)) (entry 18 [.agg [.i .i64, .b, .i .i64, .i .i64, .i .i64, .i .i64]] (fun k (a0_0 : Int) (a0_1 : Bool) (a0_2 : Int) (a0_3 : Int) (a0_4 : Int) (a0_5 : Int) => (avermentlaw12_From.f a0_0 a0_1 a0_2 a0_3 a0_4 a0_5).bind fun t => k (.agg #[.int .i64 t.1, .bool t.2.1, .int .i64 t.2.2.1, .int .i64 t.2.2.2.1, .int .i64 t.2.2.2.2.1, .int .i64 t.2.2.2.2.2])) (entry 19 [.one (.i .i64)] (fun k (a0 : Int) => (fact_Of.f a0).bind fun t => k (.agg #[.int .i64 t.1, .bool t.2.1, .int .i64 t.2.2.1, .int .i64 t.2.2.2.1, .int .i64 t.2.2.2.2.1, .int .i64 t.2.2.2.2.2])) (entry 20 [.one (.i .i64)] (fun k (a0 : Int) => (avermentref12_Of.f a0).bind fun t => k (.agg #[.int .i64 t.1, .bool t.2.1, .int .i64 t.2.2.1, .int .i64 t.2.2.2.1, .int .i64 t.2.2.2.2.1, .int .i64 t.2.2.2.2.2])) (entry 21 [] (fun k => (fact_Any.f).bind fun t => k (.agg #[.int .i64 t.1, .bool t.2.1, .int .i64 t.2.2.1, .int .i64 t.2.2.2.1, .int .i64 t.2.2.2.2.1, .int .i64 t.2.2.2.2.2])) (entry 22 [] (fun k => (avermentref12_Any.f).bind fun t => k (.agg #[.int .i64 t.1, .bool t.2.1, .int .i64 t.2.2.1, .int .i64 t.2.2.2.1, .int .i64 t.2.2.2.2.1, .int .i64 t.2.2.2.2.2])) (entry 23 [.agg [.i .i64, .b, .i .i64, .i .i64, .i .i64, .i .i64], .one (.i .i64)] (fun k (a0_0 : Int) (a0_1 : Bool) (a0_2 : Int) (a0_3 : Int) (a0_4 : Int) (a0_5 : Int) (a1 : Int) => (fact_Has.f a0_0 a0_1 a0_2 a0_3 a0_4 a0_5 a1).bind fun t => k (.bool t)) (entry 24 [.agg [.i .i64, .b, .i .i64, .i .i64, .i .i64, .i .i64], .one (.i .i64)] (fun k (a0_0 : Int) (a0_1 : Bool) (a0_2 : Int) (a0_3 : Int) (a0_4 : Int) (a0_5 : Int) (a1 : Int) => (avermentref12_Has.f a0_0 a0_1 a0_2 a0_3 a0_4 a0_5 a1).bind fun t => k (.bool t)) (entry 10 [.agg [.i .i64, .b, .i .i64, .i .i64, .i .i64, .i .i64], .agg [.i .i64, .b, .i .i64, .i .i64, .i .i64, .i .i64]] (fun k (a0_0 : Int) (a0_1 : Bool) (a0_2 : Int) (a0_3 : Int) (a0_4 : Int) (a0_5 : Int) (a1_0 : Int) (a1_1 : Bool) (a1_2 : Int) (a1_3 : Int) (a1_4 : Int) (a1_5 : Int) => (fact_Join.f a0_0 a0_1 a0_2 a0_3 a0_4 a0_5 a1_0 a1_1 a1_2 a1_3 a1_4 a1_5).bind fun t => k (.agg #[.int .i64 t.1, .bool t.2.1, .int .i64 t.2.2.1, .int .i64 t.2.2.2.1, .int .i64 t.2.2.2.2.1, .int .i64 t.2.2.2.2.2])) (entry 25 [.agg [.i .i64, .b, .i .i64, .i .i64, .i .i64, .i .i64], .agg [.i .i64, .b, .i .i64, .i .i64, .i .i64, .i .i64]] (fun k (a0_0 : Int) (a0_1 : Bool) (a0_2 : Int) (a0_3 : Int) (a0_4 : Int) (a0_5 : Int) (a1_0 : Int) (a1_1 : Bool) (a1_2 : Int) (a1_3 : Int) (a1_4 : Int) (a1_5 : Int) => (avermentref12_Join.f a0_0 a0_1 a0_2 a0_3 a0_4 a0_5 a1_0 a1_1 a1_2 a1_3 a1_4 a1_5).bind fun t => k (.agg #[.int .i64 t.1, .bool t.2.1, .int .i64 t.2.2.1, .int .i64 t.2.2.2.1, .int .i64 t.2.2.2.2.1, .int .i64 t.2.2.2.2.2])) (entry 12 [.agg [.i .i64, .b, .i .i64, .i .i64, .i .i64, .i .i64], .agg [.i .i64, .b, .i .i64, .i .i64, .i .i64, .i .i64]] (fun k (a0_0 : Int) (a0_1 : Bool) (a0_2 : Int) (a0_3 : Int) (a0_4 : Int) (a0_5 : Int) (a1_0 : Int) (a1_1 : Bool) (a1_2 : Int) (a1_3 : Int) (a1_4 : Int) (a1_5 : Int) => (fact_Within.f a0_0 a0_1 a0_2 a0_3 a0_4 a0_5 a1_0 a1_1 a1_2 a1_3 a1_4 a1_5).bind fun t => k (.bool t)) (entry 26 [.agg [.i .i64, .b, .i .i64, .i .i64, .i .i64, .i .i64], .agg [.i .i64, .b, .i .i64, .i .i64, .i .i64, .i .i64]] (fun k (a0_0 : Int) (a0_1 : Bool) (a0_2 : Int) (a0_3 : Int) (a0_4 : Int) (a0_5 : Int) (a1_0 : Int) (a1_1 : Bool) (a1_2 : Int) (a1_3 : Int) (a1_4 : Int) (a1_5 : Int) => (avermentref12_Within.f a0_0 a0_1 a0_2 a0_3 a0_4 a0_5 a1_0 a1_1 a1_2 a1_3 a1_4 a1_5).bind fun t => k (.bool t)) (entry 14 [.agg [.i .i64, .b, .i .i64, .i .i64, .i .i64, .i .i64], .agg [.i .i64, .b, .i .i64, .i .i64, .i .i64, .i .i64]] (fun k (a0_0 : Int) (a0_1 : Bool) (a0_2 : Int) (a0_3 : Int) (a0_4 : Int) (a0_5 : Int) (a1_0 : Int) (a1_1 : Bool) (a1_2 : Int) (a1_3 : Int) (a1_4 : Int) (a1_5 : Int) => (fact_Widen.f a0_0 a0_1 a0_2 a0_3 a0_4 a0_5 a1_0 a1_1 a1_2 a1_3 a1_4 a1_5).bind fun t => k (.agg #[.int .i64 t.1, .bool t.2.1, .int .i64 t.2.2.1, .int .i64 t.2.2.2.1, .int .i64 t.2.2.2.2.1, .int .i64 t.2.2.2.2.2])) (entry 27 [.agg [.i .i64, .b, .i .i64, .i .i64, .i .i64, .i .i64], .agg [.i .i64, .b, .i .i64, .i .i64, .i .i64, .i .i64]] (fun k (a0_0 : Int) (a0_1 : Bool) (a0_2 : Int) (a0_3 : Int) (a0_4 : Int) (a0_5 : Int) (a1_0 : Int) (a1_1 : Bool) (a1_2 : Int) (a1_3 : Int) (a1_4 : Int) (a1_5 : Int) => (avermentref12_Widen.f a0_0 a0_1 a0_2 a0_3 a0_4 a0_5 a1_0 a1_1 a1_2 a1_3 a1_4 a1_5).bind fun t => k (.agg #[.int .i64 t.1, .bool t.2.1, .int .i64 t.2.2.1, .int .i64 t.2.2.2.1, .int .i64 t.2.2.2.2.1, .int .i64 t.2.2.2.2.2])) (noCalls))))))))))))))))))))
theorem avermentlaw12_FactSets.C_ok : CallsOk Try.prog avermentlaw12_FactSets.C := entry_ok (entry_ok (entry_ok (entry_ok (entry_ok (entry_ok (entry_ok (entry_ok (entry_ok (entry_ok (entry_ok (entry_ok (entry_ok (entry_ok (entry_ok (entry_ok (entry_ok (entry_ok (entry_ok (entry_ok (noCalls_ok) Try.func27 (by kernel_rfl) rfl (fun k a0_0 a0_1 a0_2 a0_3 a0_4 a0_5 a1_0 a1_1 a1_2 a1_3 a1_4 a1_5 => bind_rets (fun t ht => avermentref12_Widen.rets a0_0 a0_1 a0_2 a0_3 a0_4 a0_5 a1_0 a1_1 a1_2 a1_3 a1_4 a1_5 t ht) k)) Try.func14 (by kernel_rfl) rfl (fun k a0_0 a0_1 a0_2 a0_3 a0_4 a0_5 a1_0 a1_1 a1_2 a1_3 a1_4 a1_5 => bind_rets (fun t ht => fact_Widen.rets a0_0 a0_1 a0_2 a0_3 a0_4 a0_5 a1_0 a1_1 a1_2 a1_3 a1_4 a1_5 t ht) k)) Try.func26 (by kernel_rfl) rfl (fun k a0_0 a0_1 a0_2 a0_3 a0_4 a0_5 a1_0 a1_1 a1_2 a1_3 a1_4 a1_5 => bind_rets (fun t ht => avermentref12_Within.rets a0_0 a0_1 a0_2 a0_3 a0_4 a0_5 a1_0 a1_1 a1_2 a1_3 a1_4 a1_5 t ht) k)) Try.func12 (by kernel_rfl) rfl (fun k a0_0 a0_1 a0_2 a0_3 a0_4 a0_5 a1_0 a1_1 a1_2 a1_3 a1_4 a1_5 => bind_rets (fun t ht => fact_Within.rets a0_0 a0_1 a0_2 a0_3 a0_4 a0_5 a1_0 a1_1 a1_2 a1_3 a1_4 a1_5 t ht) k)) Try.func25 (by kernel_rfl) rfl (fun k a0_0 a0_1 a0_2 a0_3 a0_4 a0_5 a1_0 a1_1 a1_2 a1_3 a1_4 a1_5 => bind_rets (fun t ht => avermentref12_Join.rets a0_0 a0_1 a0_2 a0_3 a0_4 a0_5 a1_0 a1_1 a1_2 a1_3 a1_4 a1_5 t ht) k)) Try.func10 (by kernel_rfl) rfl (fun k a0_0 a0_1 a0_2 a0_3 a0_4 a0_5 a1_0 a1_1 a1_2 a1_3 a1_4 a1_5 => bind_rets (fun t ht => fact_Join.rets a0_0 a0_1 a0_2 a0_3 a0_4 a0_5 a1_0 a1_1 a1_2 a1_3 a1_4 a1_5 t ht) k)) Try.func24 (by kernel_rfl) rfl (fun k a0_0 a0_1 a0_2 a0_3 a0_4 a0_5 a1 => bind_rets (fun t ht => avermentref12_Has.rets a0_0 a0_1 a0_2 a0_3 a0_4 a0_5 a1 t ht) k)) Try.func23 (by kernel_rfl) rfl (fun k a0_0 a0_1 a0_2 a0_3 a0_4 a0_5 a1 => bind_rets (fun t ht => fact_Has.rets a0_0 a0_1 a0_2 a0_3 a0_4 a0_5 a1 t ht) k)) Try.func22 (by kernel_rfl) rfl (fun k => bind_rets (fun t ht => avermentref12_Any.rets t ht) k)) Try.func21 (by kernel_rfl) rfl (fun k => bind_rets (fun t ht => fact_Any.rets t ht) k)) Try.func20 (by kernel_rfl) rfl (fun k a0 => bind_rets (fun t ht => avermentref12_Of.rets a0 t ht) k)) Try.func19 (by kernel_rfl) rfl (fun k a0 => bind_rets (fun t ht => fact_Of.rets a0 t ht) k)) Try.func18 (by kernel_rfl) rfl (fun k a0_0 a0_1 a0_2 a0_3 a0_4 a0_5 => bind_rets (fun t ht => avermentlaw12_From.rets a0_0 a0_1 a0_2 a0_3 a0_4 a0_5 t ht) k)) Try.func11 (by kernel_rfl) rfl (fun k => bind_rets (fun t ht => avermentlaw12_told.rets t ht) k)) Try.func17 (by kernel_rfl) rfl (fun k a0_0 a0_1 a0_2 a0_3 a0_4 a0_5 a1_0 a1_1 a1_2 a1_3 a1_4 a1_5 => bind_rets (fun t ht => avermentref12_Meet.rets a0_0 a0_1 a0_2 a0_3 a0_4 a0_5 a1_0 a1_1 a1_2 a1_3 a1_4 a1_5 t ht) k)) Try.func13 (by kernel_rfl) rfl (fun k a0_0 a0_1 a0_2 a0_3 a0_4 a0_5 a1_0 a1_1 a1_2 a1_3 a1_4 a1_5 => bind_rets (fun t ht => fact_Meet.rets a0_0 a0_1 a0_2 a0_3 a0_4 a0_5 a1_0 a1_1 a1_2 a1_3 a1_4 a1_5 t ht) k)) Try.func9 (by kernel_rfl) rfl (fun k a0_0 a0_1 a0_2 a0_3 a0_4 a0_5 => bind_rets (fun t ht => avermentref12_Fix.rets a0_0 a0_1 a0_2 a0_3 a0_4 a0_5 t ht) k)) Try.func16 (by kernel_rfl) rfl (fun k a0_0 a0_1 a0_2 a0_3 a0_4 a0_5 => bind_rets (fun t ht => avermentref12_Right.rets a0_0 a0_1 a0_2 a0_3 a0_4 a0_5 t ht) k)) Try.func15 (by kernel_rfl) rfl (fun k a0_0 a0_1 a0_2 a0_3 a0_4 a0_5 => bind_rets (fun t ht => fact_Right.rets a0_0 a0_1 a0_2 a0_3 a0_4 a0_5 t ht) k)) Try.func8 (by kernel_rfl) rfl (fun k a0_0 a0_1 a0_2 a0_3 a0_4 a0_5 => bind_rets (fun t ht => avermentlaw12_To.rets a0_0 a0_1 a0_2 a0_3 a0_4 a0_5 t ht) k)
set_option maxRecDepth 1000000 in
set_option maxHeartbeats 4000000 in
theorem avermentlaw12_FactSets.eq (a0_0 : Int) (a0_1 : Bool) (a0_2 : Int) (a0_3 : Int) (a0_4 : Int) (a0_5 : Int) (a1_0 : Int) (a1_1 : Bool) (a1_2 : Int) (a1_3 : Int) (a1_4 : Int) (a1_5 : Int) (a2 : Int) : runF Try.prog avermentlaw12_FactSets.C (eqBy Try.prog) 20 Try.f5 [.agg #[.int .i64 a0_0, .bool a0_1, .int .i64 a0_2, .int .i64 a0_3, .int .i64 a0_4, .int .i64 a0_5], .agg #[.int .i64 a1_0, .bool a1_1, .int .i64 a1_2, .int .i64 a1_3, .int .i64 a1_4, .int .i64 a1_5], .int .i64 a2] = (avermentlaw12_FactSets.f a0_0 a0_1 a0_2 a0_3 a0_4 a0_5 a1_0 a1_1 a1_2 a1_3 a1_4 a1_5 a2).bind fun t => some (.bool t) := by
  unfold avermentlaw12_FactSets.f
  simp only [cond_bind, Option.bind_assoc, some_bind, Option.bind_none]
  kernel_rfl
theorem avermentlaw12_FactSets.rets (a0_0 : Int) (a0_1 : Bool) (a0_2 : Int) (a0_3 : Int) (a0_4 : Int) (a0_5 : Int) (a1_0 : Int) (a1_1 : Bool) (a1_2 : Int) (a1_3 : Int) (a1_4 : Int) (a1_5 : Int) (a2 : Int) : ∀ t, avermentlaw12_FactSets.f a0_0 a0_1 a0_2 a0_3 a0_4 a0_5 a1_0 a1_1 a1_2 a1_3 a1_4 a1_5 a2 = some t → Rets Try.prog 5 [.agg #[.int .i64 a0_0, .bool a0_1, .int .i64 a0_2, .int .i64 a0_3, .int .i64 a0_4, .int .i64 a0_5], .agg #[.int .i64 a1_0, .bool a1_1, .int .i64 a1_2, .int .i64 a1_3, .int .i64 a1_4, .int .i64 a1_5], .int .i64 a2] (.bool t) := rets_of avermentlaw12_FactSets.C_ok (by kernel_rfl) Try.func5 (by simp [flatB, aggB, leafB]) (avermentlaw12_FactSets.eq a0_0 a0_1 a0_2 a0_3 a0_4 a0_5 a1_0 a1_1 a1_2 a1_3 a1_4 a1_5 a2)
end Go.Proofs.Ytcgjfkaipbhpkaa.FS
