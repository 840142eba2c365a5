/- What four functions with loops give back, as contracts of our small machine: their walks are printed. No condition. -/
import Derived.Test.YtcgjfkaipbhpkaaGreatFMp
import Derived.Test.YtcgjfkaipbhpkaaGreatVxI

namespace Go.Proofs.YtcgjfkaipbhpkaaGreat.FM
open Go.RowKit Go.Proofs.YtcgjfkaipbhpkaaGreatX
set_option linter.unusedVariables false
noncomputable def avermentref08_One.f (a0 a1 : Int) : Option Int := PFactMakes.avermentref08_One.f 100 a0 a1
noncomputable def avermentref08_Two.f (a0 a1 a2 : Int) : Option Int := PFactMakes.avermentref08_Two.f 300 a0 a1 a2
noncomputable def avermentref11_Two.f (a0 a1 a2 : Int) : Option Int := PFactMakes.avermentref11_Two.f 300 a0 a1 a2
noncomputable def avermentref10_Ones.f (a0 : Int) : Option Int := PFactMakes.avermentref10_Ones.f 100 a0
theorem avermentref08_One.rets (a0 a1 : Int) : ∀ t, avermentref08_One.f a0 a1 = some t → Rets Tryz.prog 26 [.int .i64 a0, .int .i64 a1] (.int .i64 t) := fun t h w => PFactMakes.avermentref08_One.calls 100 a0 a1 t w h
theorem avermentref08_Two.rets (a0 a1 a2 : Int) : ∀ t, avermentref08_Two.f a0 a1 a2 = some t → Rets Tryz.prog 41 [.int .i64 a0, .int .i64 a1, .int .i64 a2] (.int .i64 t) := fun t h w => PFactMakes.avermentref08_Two.calls 300 a0 a1 a2 t w h
theorem avermentref11_Two.rets (a0 a1 a2 : Int) : ∀ t, avermentref11_Two.f a0 a1 a2 = some t → Rets Tryz.prog 42 [.int .i64 a0, .int .i64 a1, .int .i64 a2] (.int .i64 t) := fun t h w => PFactMakes.avermentref11_Two.calls 300 a0 a1 a2 t w h
theorem avermentref10_Ones.rets (a0 : Int) : ∀ t, avermentref10_Ones.f a0 = some t → Rets Tryz.prog 111 [.int .i64 a0] (.int .i64 t) := fun t h w => (PFactMakes.avermentref10_Ones.calls 100 a0 t w h).mono fun _ _ h => ⟨h.1, h.2.below⟩
end Go.Proofs.YtcgjfkaipbhpkaaGreat.FM
