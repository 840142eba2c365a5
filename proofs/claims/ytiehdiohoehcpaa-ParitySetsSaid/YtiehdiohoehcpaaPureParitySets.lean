/- Of all sets of parities and numbers what is told of them is so. No condition. -/
import Derived.Test.YtiehdiohoehcpaaPar2
namespace Go.Proofs.Ytiehdiohoehcpaa.Pure
open Go.RowKit Go.Proofs.Ytiehdiohoehcpaa.PR
theorem ParitySets : avermentlaw11_ParitySets.Pure := fun a b n _ _ _ => ⟨9, Par.sets a b n⟩
end Go.Proofs.Ytiehdiohoehcpaa.Pure
