/- Whatever is made of parities is what two such numbers come to. No condition. -/
import Derived.Test.YtiehdiohoehcpaaPar3
namespace Go.Proofs.Ytiehdiohoehcpaa.Pure
open Go.RowKit Go.Proofs.Ytiehdiohoehcpaa.PR
theorem ParityTight : avermentlaw11_ParityTight.Pure := fun op a b _ _ _ => ⟨309, Par.tight op a b⟩
end Go.Proofs.Ytiehdiohoehcpaa.Pure
