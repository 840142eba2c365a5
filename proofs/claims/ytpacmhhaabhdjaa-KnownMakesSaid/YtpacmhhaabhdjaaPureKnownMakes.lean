/- What an operation makes of what is known. No condition. -/
import Derived.Test.YtpacmhhaabhdjaaKnM
namespace Go.Proofs.Ytpacmhhaabhdjaa.Pure
open Go.RowKit Go.Proofs.Ytpacmhhaabhdjaa.KN
theorem KnownMakes (op : Int) (a : Bool) (x : Int) (b : Bool) (y : Int) (_ : (Lit.int .i64 op).wf = true) (_ : (Lit.int .i64 x).wf = true) (_ : (Lit.int .i64 y).wf = true) : ∃ k, avermentlaw09_KnownMakes.f k op a x b y = some true := Kn.makes op a x b y
end Go.Proofs.Ytpacmhhaabhdjaa.Pure
