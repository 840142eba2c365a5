/- With more in a set of signs as many are made, or more. No condition. -/
import Derived.Test.YtiehdiohoehcpaaSgn2
namespace Go.Proofs.Ytiehdiohoehcpaa.Pure
open Go.RowKit Go.Proofs.Ytiehdiohoehcpaa.PR
theorem SignRises (op a b m : Int) (_ : (Lit.int .i64 op).wf = true) (_ : (Lit.int .i64 a).wf = true) (_ : (Lit.int .i64 b).wf = true) (_ : (Lit.int .i64 m).wf = true) : ∃ k, avermentlaw08_SignRises.f k op a b m = some true := ⟨1, Sgn.rises op a b m 0⟩
end Go.Proofs.Ytiehdiohoehcpaa.Pure
