/- Small words of the walks: a block kept, a cell of it, arguments read. No condition. -/
import Derived.Test.YtcgjfkaipbhpkaaWMore
namespace Go.Proofs.YtcgjfkaipbhpkaaW.PrintMore
open Go.RowKit Go.Proofs.YtcgjfkaipbhpkaaW.PrintWords Go.Proofs.YtcgjfkaipbhpkaaW.PrintLast
theorem bb {W0 W w1 : World} {g : Nat} {o : Obj} (h : Aside0 (W0.heap[g]? = some o)) (hb : Below W.heap.size W w1) (e : W0.heap = W.heap) : Aside0 (w1.heap[g]? = some o) := Aside0.mk (blk_below (w := W) (by rw [← e]; exact h.out) hb)
theorem bc {W : World} {g : Nat} {cs : Array Value} {t : TypeId} (h : Aside0 (W.heap[g]? = some (.cells cs t (0, 0)))) (j : Nat) {v : Value} (e : cs[j]? = some v) : W.cell? ⟨g, j, none⟩ = some v := (blk_cell h.out j).trans e
theorem mapq {α β : Type} {f : α → β} {as : List α} {vs : List β} (h : as.map f = vs) : as.toArray.map f = vs.toArray := by rw [List.map_toArray, h]
theorem geb {w W0 : World} {g n : Nat} (hg : g = n) (h : Aside0 (Below w.heap.size w W0)) (e : W0.heap.size = n) : Aside0 (w.heap.size ≤ g) := Aside0.mk (by rw [hg, ← e]; exact h.out.size)
theorem nbl {W0 : World} {g g' n : Nat} {o : Obj} (hg : g' = n) (h : Aside0 (W0.heap[g]? = some o)) (e : W0.heap.size = n) : Aside0 (g ≠ g') := Aside0.mk (by rw [hg, ← e]; exact Nat.ne_of_lt (blk_lt h.out))
theorem nbr {W0 : World} {g g' n : Nat} {o : Obj} (hg : g' = n) (h : Aside0 (W0.heap[g]? = some o)) (e : W0.heap.size = n) : Aside0 (g' ≠ g) := Aside0.mk (by rw [hg, ← e]; exact Nat.ne_of_gt (blk_lt h.out))
theorem hst {w W0 W w1 : World} (h : Aside0 (Below w.heap.size w W0)) (hb : Below W.heap.size W w1) (e : (W0.heap, W0.os, W0.tape, W0.output) = (W.heap, W.os, W.tape, W.output)) : Aside0 (Below w.heap.size w w1) := by
  simp only [Prod.mk.injEq] at e
  obtain ⟨e1, e2, e3, e4⟩ := e
  have h0 := h.out
  have hW : Below w.heap.size w W := ⟨e2 ▸ h0.os, e3 ▸ h0.tape, e4 ▸ h0.output, e1 ▸ h0.size, fun i hi => by rw [← e1]; exact h0.block i hi⟩
  exact Aside0.mk (below_step hW hb)
theorem dk {W W' : World} {n g : Nat} {o : Obj} (h : Aside0 (W.heap[g]? = some o)) (e : W.drewN n = W') : Aside0 (W'.heap[g]? = some o) := Aside0.mk (by subst e; exact h.out)
theorem dh {w W W' : World} {b n : Nat} (h : Aside0 (Below b w W)) (e : W.drewN n = W') : Aside0 (Below b w W') := Aside0.mk (by subst e; exact pw_below_drewN h.out n)
theorem c1 {W : World} {g : Nat} {t : TypeId} {v0 : Value} (h : Aside0 (W.heap[g]? = some (.cells #[v0] t (0, 0)))) : W.cell? ⟨g, 0, none⟩ = some v0 ∧ W.frozen? ⟨g, 0, none⟩ = false := ⟨(blk_cell h.out 0).trans rfl, blk_frozen h.out 0⟩
theorem c2 {W : World} {g : Nat} {t : TypeId} {v0 v1 : Value} (h : Aside0 (W.heap[g]? = some (.cells #[v0, v1] t (0, 0)))) : W.cell? ⟨g, 0, none⟩ = some v0 ∧ W.cell? ⟨g, 1, none⟩ = some v1 ∧ W.frozen? ⟨g, 0, none⟩ = false ∧ W.frozen? ⟨g, 1, none⟩ = false := ⟨(blk_cell h.out 0).trans rfl, (blk_cell h.out 1).trans rfl, blk_frozen h.out 0, blk_frozen h.out 1⟩
theorem c3 {W : World} {g : Nat} {t : TypeId} {v0 v1 v2 : Value} (h : Aside0 (W.heap[g]? = some (.cells #[v0, v1, v2] t (0, 0)))) : W.cell? ⟨g, 0, none⟩ = some v0 ∧ W.cell? ⟨g, 1, none⟩ = some v1 ∧ W.cell? ⟨g, 2, none⟩ = some v2 ∧ W.frozen? ⟨g, 0, none⟩ = false ∧ W.frozen? ⟨g, 1, none⟩ = false ∧ W.frozen? ⟨g, 2, none⟩ = false := ⟨(blk_cell h.out 0).trans rfl, (blk_cell h.out 1).trans rfl, (blk_cell h.out 2).trans rfl, blk_frozen h.out 0, blk_frozen h.out 1, blk_frozen h.out 2⟩
theorem c4 {W : World} {g : Nat} {t : TypeId} {v0 v1 v2 v3 : Value} (h : Aside0 (W.heap[g]? = some (.cells #[v0, v1, v2, v3] t (0, 0)))) : W.cell? ⟨g, 0, none⟩ = some v0 ∧ W.cell? ⟨g, 1, none⟩ = some v1 ∧ W.cell? ⟨g, 2, none⟩ = some v2 ∧ W.cell? ⟨g, 3, none⟩ = some v3 ∧ W.frozen? ⟨g, 0, none⟩ = false ∧ W.frozen? ⟨g, 1, none⟩ = false ∧ W.frozen? ⟨g, 2, none⟩ = false ∧ W.frozen? ⟨g, 3, none⟩ = false := ⟨(blk_cell h.out 0).trans rfl, (blk_cell h.out 1).trans rfl, (blk_cell h.out 2).trans rfl, (blk_cell h.out 3).trans rfl, blk_frozen h.out 0, blk_frozen h.out 1, blk_frozen h.out 2, blk_frozen h.out 3⟩
end Go.Proofs.YtcgjfkaipbhpkaaW.PrintMore
