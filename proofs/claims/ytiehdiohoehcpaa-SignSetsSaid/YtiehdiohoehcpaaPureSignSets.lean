/- Of all sets of signs and numbers what is told of them is so. No condition. -/
import Derived.Test.YtiehdiohoehcpaaSgn
namespace Go.Proofs.Ytiehdiohoehcpaa.Pure
open Go.RowKit Go.Proofs.Ytiehdiohoehcpaa.PR
theorem SignSets : avermentlaw08_SignSets.Pure := fun a b n _ _ _ => Sgn.sets a b n
end Go.Proofs.Ytiehdiohoehcpaa.Pure
