/- With less known less comes out. No condition. -/
import Derived.Test.YtpacmhhaabhdjaaKnR
namespace Go.Proofs.Ytpacmhhaabhdjaa.Pure
open Go.RowKit Go.Proofs.Ytpacmhhaabhdjaa.KN
theorem KnownRises (op : Int) (a : Bool) (x : Int) (b : Bool) (y : Int) (_ : (Lit.int .i64 op).wf = true) (_ : (Lit.int .i64 x).wf = true) (_ : (Lit.int .i64 y).wf = true) : ∃ k, avermentlaw09_KnownRises.f k op a x b y = some true := ⟨21, Kn.rises op a x b y 20 (by decide)⟩
end Go.Proofs.Ytpacmhhaabhdjaa.Pure
