/- Widening a Value comes to an end. No condition. -/
import Derived.Test.YtcgjfkaipbhpkaaFwW
namespace Go.Proofs.Ytcgjfkaipbhpkaa.Pure
open Go.RowKit Go.Proofs.Ytcgjfkaipbhpkaa.FW Go.Proofs.Ytcgjfkaipbhpkaa.Sn
theorem FactWidens (s : Int) (b : Bool) (n lo hi p : Int) (l : List S27) (hs : (Lit.int .i64 s).wf = true) (_ : (Lit.int .i64 n).wf = true) (h0 : (Lit.int .i64 lo).wf = true) (h1 : (Lit.int .i64 hi).wf = true) (hp : (Lit.int .i64 p).wf = true) (hl : ∀ x ∈ l, (Lit.int .i64 x.f0).wf = true ∧ (Lit.int .i64 x.f1.f1).wf = true ∧ (Lit.int .i64 x.f2.f0).wf = true ∧ (Lit.int .i64 x.f2.f1).wf = true ∧ (Lit.int .i64 x.f3).wf = true) : ∃ k, avermentlaw12_FactWidens.f k s b n lo hi p l = some true :=
  Fw.widens (fun x hx => by obtain ⟨a, -, c, d, e⟩ := hl x hx; exact ⟨fits_of a, fits_of c, fits_of d, fits_of e⟩) s b n lo hi p (fits_of hs) (fits_of h0) (fits_of h1) (fits_of hp)
end Go.Proofs.Ytcgjfkaipbhpkaa.Pure
