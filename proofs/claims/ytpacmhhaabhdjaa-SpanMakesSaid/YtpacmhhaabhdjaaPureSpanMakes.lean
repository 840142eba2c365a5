/- What spans make. No condition. -/
import Derived.Test.YtpacmhhaabhdjaaSmM
namespace Go.Proofs.Ytpacmhhaabhdjaa.Pure
open Go.RowKit Go.Proofs.Ytpacmhhaabhdjaa.SM Go.Proofs.Ytpacmhhaabhdjaa.Sn
theorem SpanMakes (o a b c d : Int) (_ : (Lit.int .i64 o).wf = true) (ha : (Lit.int .i64 a).wf = true) (hb : (Lit.int .i64 b).wf = true) (hc : (Lit.int .i64 c).wf = true) (hd : (Lit.int .i64 d).wf = true) : ∃ k, avermentlaw10_SpanMakes.f k o a b c d = some true := Sv.makes o a b c d (fits_of ha) (fits_of hb) (fits_of hc) (fits_of hd)
end Go.Proofs.Ytpacmhhaabhdjaa.Pure
