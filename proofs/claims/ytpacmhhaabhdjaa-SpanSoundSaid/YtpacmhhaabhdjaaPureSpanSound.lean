/- What is told of spans is sound. No condition. -/
import Derived.Test.YtpacmhhaabhdjaaSpH
namespace Go.Proofs.Ytpacmhhaabhdjaa.Pure
open Go.RowKit Go.Proofs.Ytpacmhhaabhdjaa.SP Go.Proofs.Ytpacmhhaabhdjaa.Sn
theorem SpanSound (o x y a b c d : Int) (_ : (Lit.int .i64 o).wf = true) (hx : (Lit.int .i64 x).wf = true) (hy : (Lit.int .i64 y).wf = true) (ha : (Lit.int .i64 a).wf = true) (hb : (Lit.int .i64 b).wf = true) (hc : (Lit.int .i64 c).wf = true) (hd : (Lit.int .i64 d).wf = true) : ∃ k, avermentlaw10_SpanSound.f k o x y a b c d = some true := Sv.sound o x y a b c d (fits_of hx) (fits_of hy) (fits_of ha) (fits_of hb) (fits_of hc) (fits_of hd)
end Go.Proofs.Ytpacmhhaabhdjaa.Pure
