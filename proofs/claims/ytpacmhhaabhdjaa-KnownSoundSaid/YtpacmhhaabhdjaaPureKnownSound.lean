/- What is known holds. No condition. -/
import Derived.Test.YtpacmhhaabhdjaaKnO
namespace Go.Proofs.Ytpacmhhaabhdjaa.Pure
open Go.RowKit Go.Proofs.Ytpacmhhaabhdjaa.KN
theorem KnownSound (op x y : Int) (a b : Bool) (_ : (Lit.int .i64 op).wf = true) (_ : (Lit.int .i64 x).wf = true) (_ : (Lit.int .i64 y).wf = true) : ∃ k, avermentlaw09_KnownSound.f k op x y a b = some true := ⟨21, Kn.sound op x y a b 20 (by decide)⟩
end Go.Proofs.Ytpacmhhaabhdjaa.Pure
