/- A small machine of our own: Go code run over a memory of its own numbering, in the order of the text; where it comes to a value, the model's code does, in every order. No condition beside those stated. -/
import Derived.Orders
import Derived.Below
import Derived.KernelRfl
import Derived.Laws.StructEq
namespace Go.Proofs.YtcgjfkaipbhpkaaGreatX
open Go.RowKit
set_option linter.unusedVariables false
set_option linter.unusedSimpArgs false

/-! ### Values without addresses -/
def leafB : Value → Bool
  | .bool _ => true
  | .int _ _ => true
  | .string _ => true
  | .nilFunc => true
  | .nilIface => true
  | .pointer none => true
  | .slice none _ _ => true
  | .map none => true
  | .iface _ (.int _ _) => true
  | _ => false
def aggB : Value → Bool
  | .agg cs => cs.toList.all leafB
  | v => leafB v
def flatB : Value → Bool
  | .tuple vs => vs.toList.all aggB
  | v => aggB v

/-! ### Values up to the numbering of blocks -/
def All2 {α β : Type} (R : α → β → Prop) : List α → List β → Prop
  | [], [] => True
  | a :: l, b :: m => R a b ∧ All2 R l m
  | _, _ => False

theorem All2.refl {α : Type} {R : α → α → Prop} : ∀ {l : List α}, (∀ a ∈ l, R a a) → All2 R l l
  | [], _ => trivial
  | a :: l, h => ⟨h a (by simp), All2.refl fun b hb => h b (by simp [hb])⟩
theorem All2.mono {α β : Type} {R R' : α → β → Prop} (h : ∀ a b, R a b → R' a b) : ∀ {l : List α} {m : List β}, All2 R l m → All2 R' l m
  | [], [], _ => trivial
  | _ :: _, _ :: _, ⟨h1, h2⟩ => ⟨h _ _ h1, All2.mono h h2⟩
  | [], _ :: _, k => k.elim
  | _ :: _, [], k => k.elim
theorem All2.length {α β : Type} {R : α → β → Prop} : ∀ {l : List α} {m : List β}, All2 R l m → l.length = m.length
  | [], [], _ => rfl
  | _ :: l, _ :: m, ⟨_, h2⟩ => by simp [All2.length h2]
  | [], _ :: _, k => k.elim
  | _ :: _, [], k => k.elim
theorem All2.get {α β : Type} {R : α → β → Prop} : ∀ {l : List α} {m : List β} {i : Nat} {a : α}, All2 R l m → l[i]? = some a → ∃ b, m[i]? = some b ∧ R a b
  | _ :: l, b :: m, 0, a, ⟨h1, _⟩, e => ⟨b, rfl, by simp at e; exact e ▸ h1⟩
  | _ :: l, _ :: m, i + 1, a, ⟨_, h2⟩, e => by
    have := All2.get (i := i) h2 (by simpa using e)
    simpa using this
  | [], [], _, _, _, e => by simp at e
  | [], _ :: _, _, _, k, _ => k.elim
  | _ :: _, [], _, _, k, _ => k.elim
theorem All2.take {α β : Type} {R : α → β → Prop} : ∀ {l : List α} {m : List β} (n : Nat), All2 R l m → All2 R (l.take n) (m.take n)
  | _, _, 0, _ => by simp [All2]
  | [], [], _ + 1, _ => by simp [All2]
  | _ :: l, _ :: m, n + 1, ⟨h1, h2⟩ => ⟨h1, All2.take n h2⟩
  | [], _ :: _, _ + 1, k => k.elim
  | _ :: _, [], _ + 1, k => k.elim
theorem All2.drop {α β : Type} {R : α → β → Prop} : ∀ {l : List α} {m : List β} (n : Nat), All2 R l m → All2 R (l.drop n) (m.drop n)
  | _, _, 0, h => by simpa using h
  | [], [], _ + 1, _ => by simp [All2]
  | _ :: l, _ :: m, n + 1, ⟨h1, h2⟩ => by simpa using All2.drop n h2
  | [], _ :: _, _ + 1, k => k.elim
  | _ :: _, [], _ + 1, k => k.elim
theorem All2.append {α β : Type} {R : α → β → Prop} : ∀ {l : List α} {m : List β} {l' : List α} {m' : List β}, All2 R l m → All2 R l' m' → All2 R (l ++ l') (m ++ m')
  | [], [], _, _, _, h => by simpa using h
  | _ :: l, _ :: m, _, _, ⟨h1, h2⟩, h => ⟨h1, All2.append h2 h⟩
  | [], _ :: _, _, _, k, _ => k.elim
  | _ :: _, [], _, _, k, _ => k.elim

/-- Which block a block of ours is, and its room where it is a slice's. -/
abbrev Num := Nat → Option (Nat × Nat)
def RL (σ : Num) (v v' : Value) : Prop :=
  (leafB v = true ∧ v' = v) ∨ (∃ b o b' cap, σ b = some (b', cap) ∧ v = .pointer (some ⟨b, o, none⟩) ∧ v' = .pointer (some ⟨b', o, none⟩)) ∨
    ∃ b b' cap l c, σ b = some (b', cap) ∧ v = .slice (some ⟨b, 0, none⟩) l c ∧ v' = .slice (some ⟨b', 0, none⟩) l cap
def RA (σ : Num) (v v' : Value) : Prop :=
  RL σ v v' ∨ ∃ cs cs', v = .agg cs ∧ v' = .agg cs' ∧ All2 (RL σ) cs.toList cs'.toList
def RV (σ : Num) (v v' : Value) : Prop :=
  RA σ v v' ∨ ∃ cs cs', v = .tuple cs ∧ v' = .tuple cs' ∧ All2 (RA σ) cs.toList cs'.toList

def Le (σ σ' : Num) : Prop := ∀ b b', σ b = some b' → σ' b = some b'
theorem Le.refl (σ : Num) : Le σ σ := fun _ _ h => h
theorem RL.mono {σ σ' : Num} (h : Le σ σ') {v v' : Value} : RL σ v v' → RL σ' v v'
  | .inl k => .inl k
  | .inr (.inl ⟨b, o, b', cap, k, e⟩) => .inr (.inl ⟨b, o, b', cap, h _ _ k, e⟩)
  | .inr (.inr ⟨b, b', cap, l, c, k, e⟩) => .inr (.inr ⟨b, b', cap, l, c, h _ _ k, e⟩)
theorem RA.mono {σ σ' : Num} (h : Le σ σ') {v v' : Value} : RA σ v v' → RA σ' v v'
  | .inl k => .inl (k.mono h)
  | .inr ⟨c, c', e, e', k⟩ => .inr ⟨c, c', e, e', k.mono fun _ _ => RL.mono h⟩
theorem RV.mono {σ σ' : Num} (h : Le σ σ') {v v' : Value} : RV σ v v' → RV σ' v v'
  | .inl k => .inl (k.mono h)
  | .inr ⟨c, c', e, e', k⟩ => .inr ⟨c, c', e, e', k.mono fun _ _ => RA.mono h⟩
theorem RL.of_leaf {σ : Num} {v : Value} (h : leafB v = true) : RL σ v v := .inl ⟨h, rfl⟩
theorem RA.of_agg {σ : Num} {v : Value} (h : aggB v = true) : RA σ v v := by
  cases v with
  | agg cs =>
    refine .inr ⟨cs, cs, rfl, rfl, All2.refl fun a ha => RL.of_leaf ?_⟩
    exact List.all_eq_true.1 h a ha
  | _ => exact .inl (RL.of_leaf h)
theorem RV.of_flat {σ : Num} {v : Value} (h : flatB v = true) : RV σ v v := by
  cases v with
  | tuple cs =>
    refine .inr ⟨cs, cs, rfl, rfl, All2.refl fun a ha => RA.of_agg ?_⟩
    exact List.all_eq_true.1 h a ha
  | _ => exact .inl (RA.of_agg h)
theorem RL.eq {σ : Num} {v v' : Value} (h : leafB v = true) : RL σ v v' → v' = v
  | .inl k => k.2
  | .inr (.inl ⟨_, _, _, _, _, e, _⟩) => by subst e; cases h
  | .inr (.inr ⟨_, _, _, _, _, _, e, _⟩) => by subst e; cases h
theorem All2.eq {α : Type} {R : α → α → Prop} : ∀ {l m : List α}, (∀ a b, a ∈ l → R a b → b = a) → All2 R l m → m = l
  | [], [], _, _ => rfl
  | a :: l, b :: m, h, ⟨h1, h2⟩ => by rw [h a b (by simp) h1, All2.eq (fun x y hx => h x y (by simp [hx])) h2]
  | [], _ :: _, _, k => k.elim
  | _ :: _, [], _, k => k.elim
theorem RL.eq' {σ : Num} {v v' : Value} (h : aggB v = true) : RL σ v v' → v' = v
  | .inl k => k.2
  | .inr (.inl ⟨_, _, _, _, _, e, _⟩) => by subst e; cases h
  | .inr (.inr ⟨_, _, _, _, _, _, e, _⟩) => by subst e; cases h
theorem RA.eq {σ : Num} {v v' : Value} (h : aggB v = true) : RA σ v v' → v' = v
  | .inl k => by
    exact RL.eq' h k
  | .inr ⟨c, c', e, e', k⟩ => by
    subst e e'
    have := All2.eq (fun a b ha hr => RL.eq (List.all_eq_true.1 h a ha) hr) k
    rw [Array.toList_inj.1 this]
theorem RV.eq {σ : Num} {v v' : Value} (h : flatB v = true) : RV σ v v' → v' = v
  | .inl k => by
    cases v with
    | tuple cs => rcases k with (k | ⟨_, _, _, _, _, e, _⟩ | ⟨_, _, _, _, _, _, e, _⟩) | ⟨_, _, e, _⟩
                  · exact k.2
                  · cases e
                  · cases e
                  · cases e
    | _ => exact RA.eq h k
  | .inr ⟨c, c', e, e', k⟩ => by
    subst e e'
    have := All2.eq (fun a b ha hr => RA.eq (List.all_eq_true.1 h a ha) hr) k
    rw [Array.toList_inj.1 this]

/-! ### What needs no world -/
def calm {α : Type} (P : Program) : Sem α → Option α
  | .pure a => some a
  | .program k => calm P (k P)
  | .mark _ k => calm P k
  | _ => none
theorem calm_run {α : Type} {P : Program} : ∀ (s : Sem α) {a : α} (w : World), calm P s = some a → s.run P w = .ok a w
  | .pure _, _, _, h => by simp [calm] at h; subst h; rfl
  | .program k, _, w, h => by simp only [Sem.run]; exact calm_run (k P) w h
  | .mark _ k, _, w, h => by simp only [Sem.run]; exact calm_run k w h
  | .load .., _, _, h | .store .., _, _, h | .new .., _, _, h | .shape .., _, _, h | .freeze .., _, _, h | .frozen .., _, _, h
  | .getObj .., _, _, h | .setObj .., _, _, h | .choose .., _, _, h | .sys .., _, _, h | .halt .., _, _, h => by simp [calm] at h

/-! ### The machine's states -/
structure Blk where
  cells : List Value
  elem : TypeId
  row : Nat := 0      -- how many cells an element has, where slices of it may grow
  dead : Bool := false   -- what it holds is no longer known
/-- What an operation does to memory: a new block; a block written; all of it (a function gone through in place). -/
structure Eff where
  nw : Option Blk := none
  pt : Option (Nat × Blk) := none
  all : Option (List Blk) := none
def Eff.non : Eff := {}
def Eff.new (blk : Blk) : Eff := { nw := some blk }
def Eff.put (b : Nat) (blk : Blk) : Eff := { pt := some (b, blk) }
structure Out where
  v : Value
  eff : Eff
  rd : Option Nat
structure St where
  env : List (Nat × Value)
  heap : List Blk
  n : Nat
def look : List (Nat × Value) → Nat → Option Value
  | [], _ => none
  | (u, v) :: r, t => bif Nat.beq u t then some v else look r t
def St.ev (S : St) : Operand → Option Value
  | .tmp t => look S.env t
  | .const v => bif flatB v then some v else none
  | _ => none
/-- The slot holds v, and it is known. -/
def St.know (S : St) (t : Nat) (v : Value) : St := { S with env := (t, v) :: S.env }
def putBlk (pt : Option (Nat × Blk)) (H : List Blk) : List Blk :=
  match pt with
  | some (b, old) => H.set b old
  | none => H
def St.put (S : St) (o : Oper) (out : Out) : St :=
  { env := match o.dst with | some d => (d, out.v) :: S.env | none => S.env
    heap := match out.eff.all with
      | some H => H
      | none => match out.eff.nw with
        | some blk => putBlk out.eff.pt S.heap ++ [blk]
        | none => putBlk out.eff.pt S.heap
    n := S.n }
def St.dstOk (S : St) (o : Oper) : Bool := match o.dst with | some d => Nat.blt d S.n | none => true

def cellsOfL (v : Value) : List Value := v.cells.toList

def opSh (op : BinOp) (x y : Value) (k : Out → Option Value) : Option Value :=
  match op, x, y with
  | .shl, .int j a, .int _ b => bif decide (b < 0) then none else k ⟨.int j (j.wrap (a * 2 ^ (min b.toNat j.bits))), .non, none⟩
  | .shr, .int j a, .int _ b => bif decide (b < 0) then none else k ⟨.int j (a.fdiv (2 ^ (min b.toNat j.bits))), .non, none⟩
  | _, _, _ => none

/-- One value, not several. -/
def isA : Value → Bool
  | .tuple _ => false
  | _ => true

def aggOk (P : Program) (t : TypeId) : Option Bool :=
  match P.underlying t with
  | some (.struct _) => some true
  | some (.array _ _) => some true
  | some _ => some false
  | none => none

def vpart (P : Program) (t : TypeId) (cs : Array Value) (off : Nat) : Option Value :=
  match aggOk P t with
  | some true => match P.info? t with
    | some i => some (.agg (cs.extract off (off + i.size)))
    | none => none
  | some false => cs[off]?
  | none => none
abbrev CallsBy := FuncId → List Value → (Value → Option Value) → Option Value
/-- A function gone through in place: its arguments, the memory, what follows with its results and the memory then. -/
abbrev InBy := FuncId → List Value → List Blk → (Value → List Blk → Option Value) → Option Value
abbrev EqBy := TypeId → Value → Value → Option Bool

def St.all (S : St) : List Operand → Option (List Value)
  | [] => some []
  | x :: r => match S.ev x with
    | some v => bif flatB v then (match S.all r with | some vs => some (v :: vs) | none => none) else none
    | none => none

def St.vals (S : St) : List Operand → Option (List Value)
  | [] => some []
  | x :: r => match S.ev x with
    | some v => match S.vals r with | some vs => some (v :: vs) | none => none
    | none => none

def opGen (P : Program) (S : St) (o : Oper) (k : Out → Option Value) : Option Value :=
  match S.all o.op.operands.toList with
  | none => none
  | some _ => match calm P (execOp (fun x => (S.ev x).getD undef) o) with
    | some (.value v) => bif flatB v then k ⟨v, .non, none⟩ else none
    | _ => none

def opDiv (op : BinOp) (x y : Value) (k : Out → Option Value) : Option Value :=
  match op, x, y with
  | .quo, .int j a, .int j' b => if j = j' then bif b == 0 then none else k ⟨.int j (j.wrap (a.tdiv b)), .non, none⟩ else none
  | .rem, .int j a, .int j' b => if j = j' then bif b == 0 then none else k ⟨.int j (a.tmod b), .non, none⟩ else none
  | _, _, _ => none

/-- The byte of a string at a place. -/
def byteAt (s : ByteArray) (i : Int) : Int := ((s[i.toNat]?).getD 0).toNat

def opIndex (P : Program) (t : TypeId) (x i : Value) (k : Out → Option Value) : Option Value :=
  match P.underlying t, x, i with
  | some .string, .string s, .int _ n => bif decide (0 ≤ n) then (bif decide (n < s.size) then k ⟨.int .u8 (byteAt s n), .non, none⟩ else none) else none
  | some (.array len e), .agg cs, .int _ n => match P.info? e with
    | some ti => bif decide (0 ≤ n) then (bif decide (n < (len : Int)) then (match vpart P e cs (n.toNat * ti.size) with
        | some v => bif flatB (.agg cs) && flatB v then k ⟨v, .non, none⟩ else none
        | none => none) else none) else none
    | none => none
  | _, _, _ => none

def opLen (P : Program) (t : Option TypeId) (x : Value) (k : Out → Option Value) : Option Value :=
  match t with
  | some t => match P.underlying t, x with
    | some (.slice _), .slice _ n _ => k ⟨.int .i64 n, .non, none⟩
    | some .string, .string s => k ⟨.int .i64 s.size, .non, none⟩
    | _, _ => none
  | none => none

def opIndexAddr (P : Program) (t : TypeId) (x i : Value) (k : Out → Option Value) : Option Value :=
  match P.underlying t, x, i with
  | some (.slice e), .slice (some ⟨b, 0, none⟩) len _, .int _ n => match P.info? e with
    | some ti => bif decide (0 ≤ n) then (bif decide (n < (len : Int)) then k ⟨.pointer (some ⟨b, n.toNat * ti.size, none⟩), .non, none⟩ else none) else none
    | none => none
  | some (.array len e), .pointer (some ⟨b, off, none⟩), .int _ n => match P.info? e with
    | some ti => bif decide (0 ≤ n) then (bif decide (n < (len : Int)) then k ⟨.pointer (some ⟨b, off + n.toNat * ti.size, none⟩), .non, none⟩ else none) else none
    | none => none
  | _, _, _ => none

/-- The cells of a literal's elements. -/
def partsOk (size : Nat) : Nat → List (Nat × Option Value) → Option (List Value)
  | _, [] => some []
  | i, (j, some v) :: r => bif Nat.beq i j && isA v && Nat.beq (cellsOfL v).length size then (match partsOk size (i + 1) r with | some vs => some (cellsOfL v ++ vs) | none => none) else none
  | _, (_, none) :: _ => none
def opBuildSlice (P : Program) (S : St) (t : TypeId) (len : Nat) (parts : Array (Nat × Operand)) (k : Out → Option Value) : Option Value :=
  match P.underlying t with
  | some (.slice e) => match P.info? e with
    | some ti => match ti.zero with
      | some z => match partsOk ti.size 0 (parts.toList.map fun p => (p.1, S.ev p.2)) with
        | some cs => bif Nat.beq parts.size len && Nat.blt 0 len && Nat.blt 0 ti.size && Nat.ble (len * ti.size) 16777216 && Nat.beq (cellsOfL z).length ti.size
          then k ⟨.slice (some ⟨S.heap.length, 0, none⟩) len len, .new { cells := cs, elem := e, row := ti.size }, none⟩ else none
        | none => none
      | none => none
    | none => none
  | _ => none

def dup (H : List Blk) (v : Value) : Option (Nat × List Value × Option (Nat × Blk)) :=
  match v with
  | .slice none 0 0 => some (0, [], none)
  | .slice (some ⟨b, 0, none⟩) n _ => match H[b]? with
    | some blk => bif blk.dead then none else some (n, blk.cells, some (b, blk))
    | none => none
  | _ => none
def opAppend (P : Program) (S : St) (ts : Array TypeId) (x y : Value) (k : Out → Option Value) : Option Value :=
  match ts[0]?, ts[1]? with
  | some t, some t' => bif Nat.beq t t' then match P.underlying t with
    | some (.slice e) => match P.info? e with
      | some ti => match ti.zero, dup S.heap x, y with
        | some z, some (n, cs, old), .slice (some ⟨sb, 0, none⟩) m _ => match S.heap[sb]? with
          | some src => bif !src.dead && Nat.beq src.cells.length (m * ti.size) && Nat.blt 0 ti.size && Nat.beq (cellsOfL z).length ti.size && Nat.blt 0 m && Nat.ble (n + m) 100000 && Nat.ble ti.bytes 1000000000
              && Nat.beq cs.length (n * ti.size) && (match old with | some (b, blk) => Nat.beq blk.row ti.size && Nat.beq blk.elem e && !Nat.beq b sb | none => true)
            then k ⟨.slice (some ⟨S.heap.length, 0, none⟩) (n + m) (n + m), { nw := some { cells := cs ++ src.cells, elem := e, row := ti.size }, pt := match old with | some (b, blk) => some (b, { blk with dead := true }) | none => none }, some sb⟩ else none
          | none => none
        | _, _, _ => none
      | none => none
    | _ => none
    else none
  | _, _ => none

def vop (P : Program) (C : CallsBy) (I : InBy) (inl : Nat → Bool) (E : EqBy) (S : St) (o : Oper) (k : Out → Option Value) : Option Value :=
  match o.op with
  | .move x => match S.ev x with | some v => k ⟨v, .non, none⟩ | none => none
  | .assign x => match S.ev x with | some v => k ⟨v, .non, none⟩ | none => none
  | .pick c x y => match S.ev c with
    | some (.bool t) => bif t
      then (match S.ev x with | some v => k ⟨v, .non, none⟩ | none => none)
      else (match S.ev y with | some v => k ⟨v, .non, none⟩ | none => none)
    | _ => none
  | .alloc t => match P.info? t with
    | some i => match i.zero with
      | some v => bif aggB v then k ⟨.pointer (some ⟨S.heap.length, 0, none⟩), .new { cells := cellsOfL v, elem := t }, none⟩ else none
      | none => none
    | none => none
  | .box t x => match S.ev x with
    | some v => bif isA v then k ⟨.pointer (some ⟨S.heap.length, 0, none⟩), .new { cells := cellsOfL v, elem := t }, none⟩ else none
    | none => none
  | .load t x => match S.ev x with
    | some (.pointer (some ⟨b, off, none⟩)) => match S.heap[b]? with
      | some blk => bif blk.dead then none else match aggOk P t, P.info? t with
        | some true, some i => bif Nat.ble (off + i.size) blk.cells.length then k ⟨.agg ((blk.cells.drop off).take i.size).toArray, .non, some b⟩ else none
        | some false, _ => match blk.cells[off]? with
          | some v => k ⟨v, .non, some b⟩
          | none => none
        | _, _ => none
      | none => none
    | _ => none
  | .store t x y => match S.ev x, S.ev y with
    | some (.pointer (some ⟨b, off, none⟩)), some v => match S.heap[b]?, P.info? t with
      | some blk, some i => bif !blk.dead && isA v && Nat.beq (cellsOfL v).length i.size && Nat.ble (off + i.size) blk.cells.length
        then k ⟨undef, .put b { blk with cells := blk.cells.take off ++ (cellsOfL v ++ blk.cells.drop (off + i.size)) }, none⟩ else none
      | _, _ => none
    | _, _ => none
  | .fieldAddr s x f => match S.ev x, P.underlying s with
    | some (.pointer (some ⟨b, off, none⟩)), some (.struct fs) => match fs[f]? with
      | some fd => match P.info? fd.type with
        | some i => bif Nat.beq i.size 0 then none else k ⟨.pointer (some ⟨b, off + fd.offset, none⟩), .non, none⟩
        | none => none
      | none => none
    | _, _ => none
  | .binOp op t x y _ => match op with
    | .quo => match S.ev x, S.ev y with | some u, some v => opDiv .quo u v k | _, _ => none
    | .rem => match S.ev x, S.ev y with | some u, some v => opDiv .rem u v k | _, _ => none
    | .shl => match S.ev x, S.ev y with | some u, some v => opSh .shl u v k | _, _ => none
    | .shr => match S.ev x, S.ev y with | some u, some v => opSh .shr u v k | _, _ => none
    | .eql => match S.ev x, S.ev y with
      | some (.agg u), some (.agg v) => bif flatB (.agg u) && flatB (.agg v) then (match E t (.agg u) (.agg v) with | some r => k ⟨.bool r, .non, none⟩ | none => none) else none
      | _, _ => opGen P S o k
    | .neq => match S.ev x, S.ev y with
      | some (.agg u), some (.agg v) => bif flatB (.agg u) && flatB (.agg v) then (match E t (.agg u) (.agg v) with | some r => k ⟨.bool (!r), .non, none⟩ | none => none) else none
      | _, _ => opGen P S o k
    | _ => opGen P S o k
  | .nilCheck x => match S.ev x with
    | some (.pointer (some a)) => k ⟨.pointer (some a), .non, none⟩
    | _ => none
  | .index t x i => match S.ev x, S.ev i with | some u, some v => opIndex P t u v k | _, _ => none
  | .indexAddr t x i => match S.ev x, S.ev i with | some u, some v => opIndexAddr P t u v k | _, _ => none
  | .buildSlice t len parts => opBuildSlice P S t len parts k
  | .extract x i => match S.ev x with
    | some (.tuple vs) => match vs[i]? with | some v => k ⟨v, .non, none⟩ | none => none
    | _ => none
  | .call c => match c.callee with
    | .value (.func f) => bif inl f
      then (match S.vals c.args.toList with
        | some vs => I f vs S.heap fun v H => k ⟨v, { all := some H }, none⟩
        | none => none)
      else (match S.all c.args.toList with
        | some vs => C f vs fun v => bif flatB v then k ⟨v, .non, none⟩ else none
        | none => none)
    | .builtin .len => match S.vals c.args.toList with
      | some [x] => opLen P (c.argTypes[0]?) x k
      | _ => none
    | .builtin .append => match S.vals c.args.toList with
      | some [x, y] => bif Nat.beq c.argTypes.size 2 then opAppend P S c.argTypes x y k else none
      | _ => none
    | .builtin _ => opGen P S o k
    | _ => none
  | .select _ _ => none
  | .defer _ => none
  | .go _ => none
  | .makeFunc _ _ _ => none
  | _ => opGen P S o k

/-- What a region's operation did. -/
structure Rec where
  nb : Nat
  new : Bool
  put : Option Nat
  rd : Option Nat
  all : Bool
def Eff.isNew (e : Eff) : Bool := e.nw.isSome
def Eff.puts (e : Eff) : Option Nat := match e.pt with | some (b, _) => some b | none => none
def recOf (S : St) (out : Out) : Rec := { nb := S.heap.length, new := out.eff.isNew, put := out.eff.puts, rd := out.rd, all := out.eff.all.isSome }
def skipOut : Out := ⟨undef, .non, none⟩

/-- The operations one after another; a guard that is open parts the ways. -/
def vseq (P : Program) (C : CallsBy) (I : InBy) (inl : Nat → Bool) (E : EqBy) (ops : Array Oper) : List Oper → St → List Rec → (St → List Rec → Option Value) → Option Value
  | [], S, rs, k => k S rs
  | o :: rest, S, rs, k =>
    bif S.dstOk o then
      match o.guard with
      | none => vop P C I inl E S o fun out => vseq P C I inl E ops rest (S.put o out) (rs ++ [recOf S out]) k
      | some (j, want) => match (ops[j]?).bind (·.dst) with
        | some d => match look S.env d with
          | some (.bool g) => bif g
            then (bif want
              then vop P C I inl E (S.know d (.bool true)) o fun out => vseq P C I inl E ops rest ((S.know d (.bool true)).put o out) (rs ++ [recOf S out]) k
              else vseq P C I inl E ops rest ((S.know d (.bool true)).put o skipOut) (rs ++ [recOf S skipOut]) k)
            else (bif want
              then vseq P C I inl E ops rest ((S.know d (.bool false)).put o skipOut) (rs ++ [recOf S skipOut]) k
              else vop P C I inl E (S.know d (.bool false)) o fun out => vseq P C I inl E ops rest ((S.know d (.bool false)).put o out) (rs ++ [recOf S out]) k)
          | some (.tuple _) => vseq P C I inl E ops rest (S.put o skipOut) (rs ++ [recOf S skipOut]) k
          | _ => none
        | none => none
    else none
end Go.Proofs.YtcgjfkaipbhpkaaGreatX
