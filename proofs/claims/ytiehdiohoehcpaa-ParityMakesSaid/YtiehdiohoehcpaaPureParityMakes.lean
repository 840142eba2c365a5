/- Of all operations and sets of parities what they make is what is told. No condition. -/
import Derived.Test.YtiehdiohoehcpaaPar2
namespace Go.Proofs.Ytiehdiohoehcpaa.Pure
open Go.RowKit Go.Proofs.Ytiehdiohoehcpaa.PR
theorem ParityMakes : avermentlaw11_ParityMakes.Pure := fun op a b _ _ _ => ⟨300, Par.makes op a b⟩
end Go.Proofs.Ytiehdiohoehcpaa.Pure
