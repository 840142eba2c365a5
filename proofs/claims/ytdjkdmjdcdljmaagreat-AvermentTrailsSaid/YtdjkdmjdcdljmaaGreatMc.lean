/- Own work. No condition. -/
import Derived.Test.YtdjkdmjdcdljmaaGreatMb

namespace Go.Proofs.YtdjkdmjdcdljmaaGreatX
open Go.RowKit
set_option linter.unusedVariables false
set_option linter.unusedSimpArgs false

def All2 {α β : Type} (R : α → β → Prop) : List α → List β → Prop
  | [], [] => True
  | a :: l, b :: m => R a b ∧ All2 R l m
  | _, _ => False
theorem All2.mono {α β : Type} {R R' : α → β → Prop} : ∀ {l : List α} {m : List β}, (∀ a b, a ∈ l → R a b → R' a b) → All2 R l m → All2 R' l m
  | [], [], _, _ => trivial
  | a :: _, _ :: _, h, ⟨h1, h2⟩ => ⟨h _ _ (by simp) h1, All2.mono (fun x y hx => h x y (by simp [hx])) h2⟩
  | [], _ :: _, _, k => k.elim
  | _ :: _, [], _, k => k.elim
theorem All2.length {α β : Type} {R : α → β → Prop} : ∀ {l : List α} {m : List β}, All2 R l m → l.length = m.length
  | [], [], _ => rfl
  | _ :: l, _ :: m, ⟨_, h2⟩ => by simp [All2.length h2]
  | [], _ :: _, k => k.elim
  | _ :: _, [], k => k.elim
theorem All2.get {α β : Type} {R : α → β → Prop} : ∀ {l : List α} {m : List β} {i : Nat} {a : α}, All2 R l m → l[i]? = some a → ∃ b, m[i]? = some b ∧ R a b
  | _ :: l, b :: m, 0, a, ⟨h1, _⟩, e => ⟨b, rfl, by simp at e; exact e ▸ h1⟩
  | _ :: l, _ :: m, i + 1, a, ⟨_, h2⟩, e => by
    have := All2.get (i := i) h2 (by simpa using e)
    simpa using this
  | [], [], _, _, _, e => by simp at e
  | [], _ :: _, _, _, k, _ => k.elim
  | _ :: _, [], _, _, k, _ => k.elim
theorem All2.take {α β : Type} {R : α → β → Prop} : ∀ {l : List α} {m : List β} (n : Nat), All2 R l m → All2 R (l.take n) (m.take n)
  | _, _, 0, _ => by simp [All2]
  | [], [], _ + 1, _ => by simp [All2]
  | _ :: l, _ :: m, n + 1, ⟨h1, h2⟩ => ⟨h1, All2.take n h2⟩
  | [], _ :: _, _ + 1, k => k.elim
  | _ :: _, [], _ + 1, k => k.elim
theorem All2.drop {α β : Type} {R : α → β → Prop} : ∀ {l : List α} {m : List β} (n : Nat), All2 R l m → All2 R (l.drop n) (m.drop n)
  | _, _, 0, h => by simpa using h
  | [], [], _ + 1, _ => by simp [All2]
  | _ :: l, _ :: m, n + 1, ⟨h1, h2⟩ => by simpa using All2.drop n h2
  | [], _ :: _, _ + 1, k => k.elim
  | _ :: _, [], _ + 1, k => k.elim
theorem All2.append {α β : Type} {R : α → β → Prop} : ∀ {l : List α} {m : List β} {l' : List α} {m' : List β}, All2 R l m → All2 R l' m' → All2 R (l ++ l') (m ++ m')
  | [], [], _, _, _, h => by simpa using h
  | _ :: l, _ :: m, _, _, ⟨h1, h2⟩, h => ⟨h1, All2.append h2 h⟩
  | [], _ :: _, _, _, k, _ => k.elim
  | _ :: _, [], _, _, k, _ => k.elim
theorem All2.split {α β : Type} {R : α → β → Prop} : ∀ {l : List α} {m : List β} {l' : List α} {m' : List β}, l.length = m.length → All2 R (l ++ l') (m ++ m') → All2 R l m ∧ All2 R l' m'
  | [], [], _, _, _, h => ⟨trivial, by simpa using h⟩
  | _ :: l, _ :: m, _, _, e, h => by
    have h' : _ ∧ All2 R (l ++ _) (m ++ _) := h
    obtain ⟨h1, h2⟩ := All2.split (by simpa using e) h'.2
    exact ⟨⟨h'.1, h1⟩, h2⟩
  | [], _ :: _, _, _, e, _ => by simp at e
  | _ :: _, [], _, _, e, _ => by simp at e
theorem All2.appendInv {α β : Type} {R : α → β → Prop} : ∀ {l l' : List α} {m : List β}, All2 R (l ++ l') m → ∃ m1 m2, m = m1 ++ m2 ∧ All2 R l m1 ∧ All2 R l' m2
  | [], _, m, h => ⟨[], m, rfl, trivial, h⟩
  | _ :: l, _, [], h => h.elim
  | _ :: l, _, b :: m, h => by
    have h' : _ ∧ All2 R (l ++ _) m := h
    obtain ⟨m1, m2, e, h1, h2⟩ := All2.appendInv h'.2
    exact ⟨b :: m1, m2, by simp [e], ⟨h'.1, h1⟩, h2⟩
structure Slot where
  whole : Value            -- the slice of all of it (where it is a slice's)
  real : Option Nat        -- the model's block; none: a slice without room
  cap : Nat
  row : Nat
inductive Status
  | fresh
  | dead
  | alive (s : Slot)
abbrev Num := Nat → Nat → Status
def Num.real (σ : Num) (F k r : Nat) : Prop := ∃ s, σ F k = .alive s ∧ s.real = some r
def Num.own (σ : Num) (r : Nat) : Prop := ∃ F k, σ.real F k r

abbrev Zone := Nat → Prop

section
variable (M : Cfg)
def ErrR (Z : Zone) (w : World) : Err → Value → Prop
  | .nil, v => v = .nilIface
  | .no n, v => v = .iface M.errno (.int .i64 n)
  | .at p e, v => ∃ b cs el fr u post, v = .iface M.placed (.pointer (some ⟨b, 0, none⟩)) ∧ Z b ∧ w.heap[b]? = some (.cells cs el fr) ∧ cs.toList = .int .i64 p :: u :: post ∧ ErrR Z w e u
def DV (Z : Zone) (w : World) : (t : Ty) → t.I → List Value → Prop
  | .int k, n, vs => vs = [.int k n]
  | .bool, b, vs => vs = [.bool b]
  | .str, s, vs => vs = [.string s]
  | .err, e, vs => ∃ v, vs = [v] ∧ ErrR M Z w e v
  | .own _, _, _ => False
  | .slice t, xs, vs => ∃ a cap, vs = [.slice a xs.length cap] ∧ xs.length ≤ cap ∧ (xs = [] ∨
      ∃ b off cs el fr pre post, ∃ rows : List (List Value), a = some ⟨b, off, none⟩ ∧ Z b ∧ w.heap[b]? = some (.cells cs el fr) ∧ cs.toList = pre ++ (rows.flatten ++ post) ∧ pre.length = off ∧ All2 (DV Z w t) xs rows)
  | .ptr t, x, vs => match x with
    | none => vs = [.pointer none]
    | some y => ∃ b off cs el fr pre row post, vs = [.pointer (some ⟨b, off, none⟩)] ∧ Z b ∧ w.heap[b]? = some (.cells cs el fr) ∧ cs.toList = pre ++ (row ++ post) ∧ pre.length = off ∧ DV Z w t y row
  | .pair a b, x, vs => ∃ l m, vs = l ++ m ∧ DV Z w a x.1 l ∧ DV Z w b x.2 m

mutual
def RV (σ : Num) (Z : Zone) (w : World) : V → Value → Prop
  | .lf v, v' => leafB v = true ∧ v' = v
  | .err e, v' => ErrR M Z w e v'
  | .deep t xs, v' => DV M Z w (.slice t) xs [v']
  | .pin t x, v' => DV M Z w (.ptr t) x [v']
  | .own b, v' => match σ b.1 b.2 with
    | .fresh => False
    | .dead => v'.oneCell' = true
    | .alive s => v' = s.whole ∧ v'.oneCell' = true
  | .sub b lo n, v' => match σ b.1 b.2 with
    | .fresh => False
    | .dead => v'.oneCell' = true
    | .alive s => (s.real = none ∧ n = 0 ∧ v' = s.whole ∧ ∃ a, v' = .slice a 0 0) ∨ ∃ r cap off, s.real = some r ∧ v' = .slice (some ⟨r, off, none⟩) n cap ∧ n ≤ cap ∧ (n = 0 ∨ off = lo * s.row) ∧ (lo = 0 → cap = s.cap ∧ off = 0)
  | .ptr b i off, v' => match σ b.1 b.2 with
    | .fresh => False
    | .dead => v'.oneCell' = true
    | .alive s => ∃ r, s.real = some r ∧ v' = .pointer (some ⟨r, i * s.row + off, none⟩)
  | .fn f first captured, v' => ∃ fs cs, v' = .func f fs cs ∧ RVs σ Z w first fs.toList ∧ RVs σ Z w captured cs.toList
  | .agg cs, v' => ∃ cs', v' = .agg cs' ∧ cs.all V.one = true ∧ RVs σ Z w cs cs'.toList
  | .tup vs, v' => ∃ vs', v' = .tuple vs' ∧ vs.all V.isA = true ∧ RVs σ Z w vs vs'.toList
def RVs (σ : Num) (Z : Zone) (w : World) : List V → List Value → Prop
  | [], vs => vs = []
  | v :: l, vs => ∃ v' m, vs = v' :: m ∧ RV σ Z w v v' ∧ RVs σ Z w l m
end
end
end Go.Proofs.YtdjkdmjdcdljmaaGreatX
