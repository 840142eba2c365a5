/- Own work. No condition. -/
import Derived.Test.YtdjkdmjdcdljmaaGreatMp

namespace Go.Proofs.YtdjkdmjdcdljmaaGreatX
open Go.RowKit
set_option linter.unusedVariables false
set_option linter.unusedSimpArgs false
variable {M : Cfg}

def nilSlot (row : Nat) : Slot := { whole := .slice none 0 0, real := none, cap := 0, row := row }
def cutSlot (s : Slot) (n : Nat) : Slot := match s.real with
  | some r => { s with whole := .slice (some ⟨r, 0, none⟩) n s.cap }
  | none => s
def rowH : Option HSh → Nat
  | some (.list _ t _) => t.size
  | _ => 0
def pull (σ : Num) (m : Bind) (hs : List HSh) : Num := fun F k =>
  match getB m F with
  | some (.at G) => σ G k
  | some (.cut G n) => match k with
    | 0 => match σ G 0 with
      | .alive s => .alive (cutSlot s n)
      | .dead => .dead
      | .fresh => .fresh
    | _ + 1 => .dead
  | some .nil => match k with
    | 0 => .alive (nilSlot (rowH hs[F]?))
    | _ + 1 => .dead
  | some .dead => .dead
  | _ => .fresh
def zoneF (σ : Num) (Z : Zone) (fz : List Nat) : Zone := fun r => Z r ∨ ∃ G ∈ fz, σ.real G 0 r
def Ext (W W' : Wit) : Prop := (∀ F p, getB W.map F = some p → getB W'.map F = some p) ∧ ∀ G ∈ W.fz, G ∈ W'.fz
theorem Ext.refl (W : Wit) : Ext W W := ⟨fun _ _ h => h, fun _ h => h⟩
theorem Ext.trans {a b c : Wit} (h : Ext a b) (k : Ext b c) : Ext a c := ⟨fun F p e => k.1 F p (h.1 F p e), fun G e => k.2 G (h.2 G e)⟩
theorem getB_set {m : Bind} {F F' : Nat} {p : Option MP} (hF : F < m.length) : getB (m.set F p) F' = if F = F' then p else getB m F' := by
  unfold getB
  by_cases e : F = F'
  · subst e; simp [hF]
  · rw [List.getElem?_set_ne e, if_neg e]
theorem bindAt_spec {m m' : Bind} {F G : Nat} (h : bindAt m F G = some m') : getB m' F = some (.at G) ∧ ∀ F' p, getB m F' = some p → getB m' F' = some p := by
  unfold bindAt at h
  split at h
  · rename_i hm
    have hF : F < m.length := (List.getElem?_eq_some_iff.1 hm).1
    cases h
    refine ⟨by rw [getB_set hF, if_pos rfl], fun F' p hp => ?_⟩
    rw [getB_set hF]
    by_cases e : F = F'
    · subst e; simp [getB, hm] at hp
    · rw [if_neg e]; exact hp
  · rename_i G' hm
    obtain ⟨hb, h⟩ := bif_some h
    cases h
    have := Nat.eq_of_beq_eq_true hb
    subst this
    exact ⟨by simp [getB, hm], fun _ _ h => h⟩
  · cases h
theorem bindNew_spec {m m' : Bind} {F : Nat} {q : MP} (h : bindNew m F q = some m') : getB m' F = some q ∧ ∀ F' p, getB m F' = some p → getB m' F' = some p := by
  unfold bindNew at h
  split at h
  · rename_i hm
    have hF : F < m.length := (List.getElem?_eq_some_iff.1 hm).1
    cases h
    refine ⟨by rw [getB_set hF, if_pos rfl], fun F' p hp => ?_⟩
    rw [getB_set hF]
    by_cases e : F = F'
    · subst e; simp [getB, hm] at hp
    · rw [if_neg e]; exact hp
  · cases h
def HeapR (M : Cfg) (σ : Num) (Z : Zone) (w : World) (H : List HE) : Prop := ∀ (G : Nat) he, H[G]? = some he → HER M σ Z w G he
end Go.Proofs.YtdjkdmjdcdljmaaGreatX
