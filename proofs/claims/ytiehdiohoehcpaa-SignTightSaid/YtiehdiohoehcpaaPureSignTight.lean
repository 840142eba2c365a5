/- Each sign that is made is that of what two such numbers come to. No condition. -/
import Derived.Test.YtiehdiohoehcpaaSgn
namespace Go.Proofs.Ytiehdiohoehcpaa.Pure
open Go.RowKit Go.Proofs.Ytiehdiohoehcpaa.PR
theorem SignTight : avermentlaw08_SignTight.Pure := fun op a b _ _ _ => ⟨300, Sgn.tight op a b⟩
end Go.Proofs.Ytiehdiohoehcpaa.Pure
