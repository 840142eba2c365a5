/- With more in a set of parities as much is made, or more. No condition. -/
import Derived.Test.YtiehdiohoehcpaaPar3
namespace Go.Proofs.Ytiehdiohoehcpaa.Pure
open Go.RowKit Go.Proofs.Ytiehdiohoehcpaa.PR
theorem ParityRises (op a b m : Int) (_ : (Lit.int .i64 op).wf = true) (_ : (Lit.int .i64 a).wf = true) (_ : (Lit.int .i64 b).wf = true) (_ : (Lit.int .i64 m).wf = true) : ∃ k, avermentlaw11_ParityRises.f k op a b m = some true := ⟨10, Par.rises op a b m 9 (by decide)⟩
end Go.Proofs.Ytiehdiohoehcpaa.Pure
