/- The sets between two ends. No condition. -/
import Derived.Test.YtpacmhhaabhdjaaSpSets
namespace Go.Proofs.Ytpacmhhaabhdjaa.Pure
open Go.RowKit Go.Proofs.Ytpacmhhaabhdjaa.SP
theorem SpanSets (a b c d n : Int) (_ : (Lit.int .i64 a).wf = true) (_ : (Lit.int .i64 b).wf = true) (_ : (Lit.int .i64 c).wf = true) (_ : (Lit.int .i64 d).wf = true) (_ : (Lit.int .i64 n).wf = true) : ∃ k, avermentlaw10_SpanSets.f k a b c d n = some true := ⟨101, Sp.sets a b c d n 100 (by decide)⟩
end Go.Proofs.Ytpacmhhaabhdjaa.Pure
