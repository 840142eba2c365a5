/- The sign of what two numbers come to is in what is made of sets that have theirs. No condition. -/
import Derived.Test.YtiehdiohoehcpaaSgn2
namespace Go.Proofs.Ytiehdiohoehcpaa.Pure
open Go.RowKit Go.Proofs.Ytiehdiohoehcpaa.PR
theorem SignSound (op x y a b : Int) (_ : (Lit.int .i64 op).wf = true) (hx : (Lit.int .i64 x).wf = true) (hy : (Lit.int .i64 y).wf = true) (_ : (Lit.int .i64 a).wf = true) (_ : (Lit.int .i64 b).wf = true) : ∃ k, avermentlaw08_SignSound.f k op x y a b = some true := ⟨1, Sgn.sound hx hy 0⟩
end Go.Proofs.Ytiehdiohoehcpaa.Pure
