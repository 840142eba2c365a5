/- Widening comes to an end. No condition. -/
import Derived.Test.YtpacmhhaabhdjaaSpWid
namespace Go.Proofs.Ytpacmhhaabhdjaa.Pure
open Go.RowKit Go.Proofs.Ytpacmhhaabhdjaa.SP
theorem SpanWidens (a b : Int) (l : List S56) (ha : (Lit.int .i64 a).wf = true) (hb : (Lit.int .i64 b).wf = true) (hl : ∀ x ∈ l, (Lit.int .i64 x.f0).wf = true ∧ (Lit.int .i64 x.f1).wf = true) : ∃ k, avermentlaw10_SpanWidens.f k a b l = some true := Sp.widens (fun x hx => ⟨Sp.fits_of (hl x hx).1, Sp.fits_of (hl x hx).2⟩) a b (Sp.fits_of ha) (Sp.fits_of hb)
end Go.Proofs.Ytpacmhhaabhdjaa.Pure
