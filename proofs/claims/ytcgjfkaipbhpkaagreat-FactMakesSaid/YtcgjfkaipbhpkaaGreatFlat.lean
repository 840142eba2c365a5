/- Arguments that are structs or arrays of whole numbers and bools, opened to their cells. No condition. -/
import Derived.OpenShut
import Derived.ChangeArms
import Derived.Carry
namespace Go.Proofs.YtcgjfkaipbhpkaaGreat.Flat
open Go.ChangeShapes Go.WideShapes Go.RowKit

/-- A cell's kind: a whole number, or a bool. -/
inductive LK where
  | i (k : IntKind)
  | b
def leafOk : LK → Value → Prop
  | .i k, v => ∃ n, v = .int k n ∧ (Lit.int k n).wf = true
  | .b, v => ∃ x, v = .bool x
/-- Cells of these kinds. -/
def Lvs : List LK → List Value → Prop
  | [], cs => cs = []
  | k :: ks, cs => ∃ v r, cs = v :: r ∧ leafOk k v ∧ Lvs ks r
theorem Lvs.append : ∀ {a b : List LK} {cs ds : List Value}, Lvs a cs → Lvs b ds → Lvs (a ++ b) (cs ++ ds)
  | [], _, cs, ds, h, g => by rw [show cs = [] from h]; exact g
  | _ :: _, _, _, ds, ⟨v, r, e, hv, hr⟩, g => ⟨v, r ++ ds, by rw [e]; rfl, hv, Lvs.append hr g⟩
/-- A type whose cells are of these kinds, wherever it is read. -/
def Flat (P : Program) (t : TypeId) (ks : List LK) : Prop :=
  ∀ {H : Type} {enc : TypeId × Value → H} {w : World} {base : Nat} {spare : Nat → Bool} {held : Bool} {fuel : Nat} {cs : List Value} {x : DataW H × List MemPlace}, DataW.trod enc P w base spare held fuel t cs = some x → Lvs ks cs
section
variable {P : Program} {t e : TypeId}
theorem flat_int {k : IntKind} (h : P.underlying t = some (.int k)) : Flat P t [.i k] := fun g => by
  obtain ⟨n, rfl, _, hw⟩ := DataW.trod_int h g
  exact ⟨_, [], rfl, ⟨n, rfl, hw⟩, rfl⟩
theorem flat_bool (h : P.underlying t = some .bool) : Flat P t [.b] := fun g => by
  obtain ⟨n, rfl, _⟩ := DataW.trod_bool h g
  exact ⟨_, [], rfl, ⟨n, rfl⟩, rfl⟩
theorem Lvs.seg {a b : List LK} (cs : List Value) (o s : Nat) (h : Lvs a ((cs.drop o).take s)) (g : Lvs b (cs.drop (o + s))) : Lvs (a ++ b) (cs.drop o) := by
  have e : cs.drop o = (cs.drop o).take s ++ cs.drop (o + s) := by
    rw [← List.drop_drop, List.take_append_drop]
  rw [e]
  exact h.append g
theorem Lvs.last {a : List LK} (cs : List Value) (o s : Nat) (hl : cs.length = o + s) (h : Lvs a ((cs.drop o).take s)) : Lvs a (cs.drop o) := by
  rw [List.take_of_length_le (by simp; omega)] at h
  exact h
/-- A field's part, out of a struct's reading. -/
theorem some_at {α : Type} {xs : List α} {j n : Nat} {y : Option α} (hn : xs.length = n) (hj : j < n) (h : y = xs[j]?) : ∃ z, y = some z := ⟨xs[j]'(by omega), by rw [h]; exact List.getElem?_eq_getElem _⟩
theorem agg_of {v : Value} (h : 2 ≤ v.cells.toList.length) : ∃ cs : Array Value, v = .agg cs ∧ v.cells.toList = cs.toList := by
  cases v <;> first | exact ⟨_, rfl, rfl⟩ | (simp [Value.cells] at h)
theorem arr_parts {H : Type} {enc : TypeId × Value → H} {w : World} {base : Nat} {spare : Nat → Bool} {held : Bool} {n m : Nat} {cs : List Value} {x : List (DataW H × List MemPlace)} {s : Nat}
    (h : (List.range n).mapM (fun i => DataW.trod enc P w base spare held m e ((cs.drop (i * s)).take s)) = some x) (j : Nat) (hj : j < n) : ∃ y, DataW.trod enc P w base spare held m e ((cs.drop (j * s)).take s) = some y := by
  have g : ∀ (l : List Nat) (x : List (DataW H × List MemPlace)), l.mapM (fun i => DataW.trod enc P w base spare held m e ((cs.drop (i * s)).take s)) = some x → ∀ i ∈ l, ∃ y, DataW.trod enc P w base spare held m e ((cs.drop (i * s)).take s) = some y := by
    intro l
    induction l with
    | nil => intro _ _ i hi; cases hi
    | cons a r ih =>
      intro x hx i hi
      rw [List.mapM_cons] at hx
      simp only [bind, Option.bind_eq_some_iff, pure] at hx
      obtain ⟨y, hy, ys, hys, _⟩ := hx
      rcases List.mem_cons.mp hi with rfl | hi
      · exact ⟨y, hy⟩
      · exact ih ys hys i hi
  exact g _ x h j (List.mem_range.mpr hj)
/-- An array's reading, out of its elements'. -/
theorem arr_step {H : Type} {enc : TypeId × Value → H} {w : World} {base : Nat} {spare : Nat → Bool} {held : Bool} {n fuel : Nat} {cs : List Value} {x : DataW H × List MemPlace}
    (ht : P.underlying t = some (.array n e)) (h : DataW.trod enc P w base spare held fuel t cs = some x) :
    cs.length = P.cellsOf t ∧ ∃ m, ∀ j, j < n → ∃ y, DataW.trod enc P w base spare held m e ((cs.drop (j * P.cellsOf e)).take (P.cellsOf e)) = some y := by
  cases fuel with
  | zero => simp [DataW.trod] at h
  | succ m =>
    rw [DataW.trod_step] at h
    unfold DataW.trodStep at h
    simp only [ht] at h
    by_cases c : cs.length = P.cellsOf t
    · rw [if_pos c] at h
      simp only [Option.map_eq_some_iff] at h
      obtain ⟨ys, hy, _⟩ := h
      exact ⟨c, m, fun j hj => arr_parts hy j hj⟩
    · rw [if_neg c] at h
      cases h
end
end Go.Proofs.YtcgjfkaipbhpkaaGreat.Flat
