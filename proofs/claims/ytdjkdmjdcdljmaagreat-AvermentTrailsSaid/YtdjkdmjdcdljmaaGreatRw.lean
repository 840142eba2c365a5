/- Own work. No condition. -/
import Derived.Test.YtdjkdmjdcdljmaaGreatRt

import Derived.KernelRfl
namespace Go.Proofs.YtdjkdmjdcdljmaaGreat.AT
open Go.Proofs.YtdjkdmjdcdljmaaGreatX
set_option maxRecDepth 1000000
set_option maxHeartbeats 4000000
theorem runs_n (n : Nat) : avermenttop_runs.f (n + 200) = some true := by kernel_rfl
theorem runs_val {K : Nat} (hK : 2000 ≤ K) : avermenttop_runs.f K = some true := by
  obtain ⟨n, rfl⟩ : ∃ n, K = n + 200 := ⟨K - 200, by omega⟩
  exact runs_n n
end Go.Proofs.YtdjkdmjdcdljmaaGreat.AT
