/- The parity of what two numbers come to is in what is made of sets that have theirs. No condition. -/
import Derived.Test.YtiehdiohoehcpaaPar2
namespace Go.Proofs.Ytiehdiohoehcpaa.Pure
open Go.RowKit Go.Proofs.Ytiehdiohoehcpaa.PR
theorem ParitySound (op x y a b : Int) (_ : (Lit.int .i64 op).wf = true) (_ : (Lit.int .i64 x).wf = true) (_ : (Lit.int .i64 y).wf = true) (_ : (Lit.int .i64 a).wf = true) (_ : (Lit.int .i64 b).wf = true) : ∃ k, avermentlaw11_ParitySound.f k op x y a b = some true := ⟨10, Par.sound op x y a b 9 (by decide)⟩
end Go.Proofs.Ytiehdiohoehcpaa.Pure
