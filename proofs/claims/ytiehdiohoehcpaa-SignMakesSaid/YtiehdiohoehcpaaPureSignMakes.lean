/- Of all operations and sets of signs what they make is what is told. No condition. -/
import Derived.Test.YtiehdiohoehcpaaSgn
namespace Go.Proofs.Ytiehdiohoehcpaa.Pure
open Go.RowKit Go.Proofs.Ytiehdiohoehcpaa.PR
theorem SignMakes : avermentlaw08_SignMakes.Pure := fun op a b _ _ _ => ⟨300, Sgn.makes op a b⟩
end Go.Proofs.Ytiehdiohoehcpaa.Pure
