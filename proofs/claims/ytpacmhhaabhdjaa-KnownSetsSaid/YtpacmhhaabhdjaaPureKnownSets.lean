/- The sets of a known number. No condition. -/
import Derived.Test.YtpacmhhaabhdjaaKnS
namespace Go.Proofs.Ytpacmhhaabhdjaa.Pure
open Go.RowKit Go.Proofs.Ytpacmhhaabhdjaa.KN
theorem KnownSets (a : Bool) (x : Int) (b : Bool) (y n : Int) (_ : (Lit.int .i64 x).wf = true) (_ : (Lit.int .i64 y).wf = true) (_ : (Lit.int .i64 n).wf = true) : ∃ k, avermentlaw09_KnownSets.f k a x b y n = some true := ⟨21, Kn.sets a x b y n 20 (by decide)⟩
end Go.Proofs.Ytpacmhhaabhdjaa.Pure
