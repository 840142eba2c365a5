/- Small words of the walks: a block kept, a cell of it, arguments read. No condition. -/
import Derived.Test.YtpacmhhaabhdjaaWMore
namespace Go.Proofs.YtpacmhhaabhdjaaW.PrintMore
open Go.RowKit Go.Proofs.YtpacmhhaabhdjaaW.PrintWords Go.Proofs.YtpacmhhaabhdjaaW.PrintLast
theorem bb {W0 W w1 : World} {g : Nat} {o : Obj} (h : Aside0 (W0.heap[g]? = some o)) (hb : Below W.heap.size W w1) (e : W0.heap = W.heap) : Aside0 (w1.heap[g]? = some o) := Aside0.mk (blk_below (w := W) (by rw [← e]; exact h.out) hb)
theorem bc {W : World} {g : Nat} {cs : Array Value} {t : TypeId} (h : Aside0 (W.heap[g]? = some (.cells cs t (0, 0)))) (j : Nat) {v : Value} (e : cs[j]? = some v) : W.cell? ⟨g, j, none⟩ = some v := (blk_cell h.out j).trans e
theorem mapq {α β : Type} {f : α → β} {as : List α} {vs : List β} (h : as.map f = vs) : as.toArray.map f = vs.toArray := by rw [List.map_toArray, h]
theorem geb {w W0 : World} {g n : Nat} (hg : g = n) (h : Aside0 (Below w.heap.size w W0)) (e : W0.heap.size = n) : Aside0 (w.heap.size ≤ g) := Aside0.mk (by rw [hg, ← e]; exact h.out.size)
theorem nbl {W0 : World} {g g' n : Nat} {o : Obj} (hg : g' = n) (h : Aside0 (W0.heap[g]? = some o)) (e : W0.heap.size = n) : Aside0 (g ≠ g') := Aside0.mk (by rw [hg, ← e]; exact Nat.ne_of_lt (blk_lt h.out))
theorem nbr {W0 : World} {g g' n : Nat} {o : Obj} (hg : g' = n) (h : Aside0 (W0.heap[g]? = some o)) (e : W0.heap.size = n) : Aside0 (g' ≠ g) := Aside0.mk (by rw [hg, ← e]; exact Nat.ne_of_gt (blk_lt h.out))
theorem hst {w W0 W w1 : World} (h : Aside0 (Below w.heap.size w W0)) (hb : Below W.heap.size W w1) (e : (W0.heap, W0.os, W0.tape, W0.output) = (W.heap, W.os, W.tape, W.output)) : Aside0 (Below w.heap.size w w1) := by
  simp only [Prod.mk.injEq] at e
  obtain ⟨e1, e2, e3, e4⟩ := e
  have h0 := h.out
  have hW : Below w.heap.size w W := ⟨e2 ▸ h0.os, e3 ▸ h0.tape, e4 ▸ h0.output, e1 ▸ h0.size, fun i hi => by rw [← e1]; exact h0.block i hi⟩
  exact Aside0.mk (below_step hW hb)
end Go.Proofs.YtpacmhhaabhdjaaW.PrintMore
