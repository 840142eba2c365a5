/- The law AvermentUnique, in parts: this text is packed by program (names shortened). No condition. -/
import Derived.Orders
import Derived.Below
import Derived.KernelRfl
import Derived.Laws.StructEq
import Derived.Laws.CopyRow
import Derived.Laws.AppendOwn
import Derived.Great.BuildSlice
import Derived.Laws.MakeOwn
import Derived.Laws.BytesString
set_option linter.unusedVariables false
set_option linter.unusedSimpArgs false
namespace Go.Proofs.YtdjkdmjdcdljmaaGreatDoorY
open Go.RowKit
inductive Err
  | nil
  | no (n : Int)
  | at (p : Int) (e : Err)
inductive Ty
  | int (k : IntKind)
  | bool
  | str
  | err
  | own (j : Nat)
  | slice (t : Ty)
  | ptr (t : Ty)
  | pair (a b : Ty)
@[reducible] def Ty.I : Ty → Type
  | .int _ => Int
  | .bool => Bool
  | .str => ByteArray
  | .err => Err
  | .own _ => Nat
  | .slice t => List t.I
  | .ptr t => Option t.I
  | .pair a b => a.I × b.I
def IntKind.beq' : IntKind → IntKind → Bool
  | .i8, .i8 | .i16, .i16 | .i32, .i32 | .i64, .i64 | .u8, .u8 | .u16, .u16 | .u32, .u32 | .u64, .u64 => true
  | _, _ => false
def Ty.beq : Ty → Ty → Bool
  | .int k, .int k' => IntKind.beq' k k'
  | .bool, .bool => true
  | .str, .str => true
  | .err, .err => true
  | .own j, .own j' => Nat.beq j j'
  | .slice t, .slice t' => t.beq t'
  | .ptr t, .ptr t' => t.beq t'
  | .pair a b, .pair a' b' => a.beq a' && b.beq b'
  | _, _ => false
theorem IntKind.beq'_eq {k k' : IntKind} (h : IntKind.beq' k k' = true) : k = k' := by cases k <;> cases k' <;> first | rfl | cases h
theorem Ty.beq_eq : ∀ {t t' : Ty}, t.beq t' = true → t = t'
  | .int k, t', h => by cases t' <;> simp [Ty.beq] at h; rw [IntKind.beq'_eq h]
  | .bool, t', h => by cases t' <;> simp [Ty.beq] at h; rfl
  | .str, t', h => by cases t' <;> simp [Ty.beq] at h; rfl
  | .err, t', h => by cases t' <;> simp [Ty.beq] at h; rfl
  | .own j, t', h => by cases t' <;> simp [Ty.beq] at h; rw [h]
  | .slice t, t', h => by cases t' <;> simp [Ty.beq] at h; rw [Ty.beq_eq h]
  | .ptr t, t', h => by cases t' <;> simp [Ty.beq] at h; rw [Ty.beq_eq h]
  | .pair a b, t', h => by cases t' <;> simp [Ty.beq] at h; rw [Ty.beq_eq h.1, Ty.beq_eq h.2]
def Ty.cast {F : Type → Type} (t t' : Ty) (x : F t.I) : Option (F t'.I) := if h : t.beq t' = true then some (Ty.beq_eq h ▸ x) else none
def Ty.size : Ty → Nat
  | .pair a b => a.size + b.size
  | _ => 1
def globV : Option Value := (some (.iface 338 (.agg #[.pointer (some ⟨1, 34, none⟩)])))
abbrev Bid := Nat × Nat
inductive V
  | lf (v : Value)
  | err (e : Err)
  | deep (t : Ty) (xs : List t.I)
  | pin (t : Ty) (x : Option t.I)
  | own (b : Bid)
  | sub (b : Bid) (lo n : Nat)
  | ptr (b : Bid) (i off : Nat)
  | fn (f : Fn) (first captured : List V)
  | agg (cs : List V)
  | tup (vs : List V)
def z0f : Value → Bool
  | .bool _ => true
  | .int _ _ => true
  | .string _ => true
  | .nilFunc => true
  | .nilIface => true
  | .pointer none => true
  | .slice none _ _ => true
  | _ => false
def V.one : V → Bool
  | .agg _ => false
  | .tup _ => false
  | _ => true
def V.isA : V → Bool
  | .tup _ => false
  | _ => true
def V.cells : V → List V
  | .agg cs => cs
  | v => [v]
def V.und : V := .tup []
def Ty.cells (fs : List Nat) : (t : Ty) → t.I → List V
  | .int k, n => [.lf (.int k n)]
  | .bool, b => [.lf (.bool b)]
  | .str, s => [.lf (.string s)]
  | .err, e => [.err e]
  | .own j, k => [.own (fs.getD j 0, k)]
  | .slice t, xs => [.deep t xs]
  | .ptr t, x => [.pin t x]
  | .pair a b, x => a.cells fs x.1 ++ b.cells fs x.2
def Ty.un (fs : List Nat) : (t : Ty) → List V → Option (t.I × List V)
  | .int k, v :: r => match v with
    | .lf (.int k' n) => bif IntKind.beq' k' k then some (n, r) else none
    | _ => none
  | .bool, v :: r => match v with
    | .lf (.bool b) => some (b, r)
    | _ => none
  | .str, v :: r => match v with
    | .lf (.string s) => some (s, r)
    | _ => none
  | .err, v :: r => match v with
    | .err e => some (e, r)
    | .lf .nilIface => some (Err.nil, r)
    | _ => none
  | .own j, v :: r => match v with
    | .own (f, k) => bif Nat.beq f (fs.getD j 0) then some (k, r) else none
    | _ => none
  | .slice t, v :: r => match v with
    | .deep t' xs => match Ty.cast (F := List) t' t xs with
      | some ys => some (ys, r)
      | none => none
    | .lf (.slice none n _) => match n with
      | 0 => some ([], r)
      | _ + 1 => none
    | _ => none
  | .ptr t, v :: r => match v with
    | .pin t' x => match Ty.cast (F := Option) t' t x with
      | some y => some (y, r)
      | none => none
    | .lf (.pointer none) => some (none, r)
    | _ => none
  | .pair a b, vs => match a.un fs vs with
    | some (x, r) => match b.un fs r with
      | some (y, r') => some ((x, y), r')
      | none => none
    | none => none
  | _, [] => none
def Ty.un1 (fs : List Nat) (t : Ty) (vs : List V) : Option t.I :=
  match t.un fs vs with
  | some (x, []) => some x
  | _ => none
def Ty.z01 (fs : List Nat) (t : Ty) : Nat → List V → Option (List t.I)
  | 0, _ => none
  | _ + 1, [] => some []
  | n + 1, v :: vs => match t.un fs (v :: vs) with
    | some (x, r) => match Ty.z01 fs t n r with
      | some xs => some (x :: xs)
      | none => none
    | none => none
inductive HE
  | dead
  | cells (elem : TypeId) (row : Nat) (cs : List V)
  | list (elem : TypeId) (t : Ty) (fs : List Nat) (xs : List t.I)
  | many (elem : TypeId) (t : Ty) (xs : List (Option (List t.I)))
structure St where
  env : List (Nat × V)
  heap : List HE
  n : Nat
def look : List (Nat × V) → Nat → Option V
  | [], _ => none
  | (u, v) :: r, t => bif Nat.beq u t then some v else look r t
def vlit (v : Value) : Option V := bif z0f v then some (.lf v) else match v with
  | .func fn first captured => bif first.isEmpty && captured.isEmpty then some (.fn fn [] []) else none
  | _ => none
def St.ev (S : St) : Operand → Option V
  | .tmp t => look S.env t
  | .const v => vlit v
  | .func f => some (.fn (.func f) [] [])
  | _ => none
def St.evs (S : St) : List Operand → Option (List V)
  | [] => some []
  | x :: r => match S.ev x with
    | some v => match S.evs r with | some vs => some (v :: vs) | none => none
    | none => none
structure Out where
  v : V
  chg : List (Nat × HE) := []
  rds : List Nat := []
def j23 (H : List HE) (F : Nat) (he : HE) : List HE := bif Nat.blt F H.length then H.set F he else H ++ [he]
def z3c (H : List HE) : List (Nat × HE) → List HE
  | [] => H
  | (F, he) :: r => z3c (j23 H F he) r
def St.know (S : St) (t : Nat) (v : V) : St := { S with env := (t, v) :: S.env }
def St.put (S : St) (o : Oper) (out : Out) : St :=
  { env := match o.dst with | some d => (d, out.v) :: S.env | none => S.env
    heap := z3c S.heap out.chg
    n := S.n }
def St.dstOk (S : St) (o : Oper) : Bool := match o.dst with | some d => Nat.blt d S.n | none => true
end Go.Proofs.YtdjkdmjdcdljmaaGreatDoorY
namespace Go.Proofs.YtdjkdmjdcdljmaaGreatDoorY
open Go.RowKit
def calm {α : Type} (P : Program) : Sem α → Option α
  | .pure a => some a
  | .program k => calm P (k P)
  | .mark _ k => calm P k
  | _ => none
structure Cfg where
  P : Program
  ty : TypeId → Option Ty
  frz : TypeId → Option Ty := fun _ => none
  made : TypeId → Option (TypeId × Ty) := fun _ => none
  errno : TypeId
  placed : TypeId
def j24 (P : Program) (t : TypeId) : Option Bool :=
  match P.underlying t with
  | some (.struct _) => some true
  | some (.array _ _) => some true
  | some _ => some false
  | none => none
def V.leaf? : V → Option Value
  | .lf v => some v
  | _ => none
def q80 : List V → Option (List Value)
  | [] => some []
  | v :: r => match v.leaf? with
    | some u => match q80 r with | some us => some (u :: us) | none => none
    | none => none
def V.j0h : V → Option Value
  | .lf v => some v
  | .agg cs => match q80 cs with
    | some us => some (.agg us.toArray)
    | none => none
  | _ => none
def V.q97 (v : Value) : Option V :=
  match v with
  | .agg cs => bif cs.toList.all z0f then some (.agg (cs.toList.map .lf)) else none
  | v => bif z0f v then some (.lf v) else none
def St.flats (S : St) : List Operand → Option Unit
  | [] => some ()
  | x :: r => match S.ev x with
    | some v => match v.j0h with | some _ => S.flats r | none => none
    | none => none
def St.fl (S : St) (x : Operand) : Value := match S.ev x with
  | some v => match v.j0h with | some u => u | none => undef
  | none => undef
variable {α : Type}
def z7w (M : Cfg) (S : St) (o : Oper) (k : Out → Option α) : Option α :=
  match S.flats o.op.operands.toList with
  | none => none
  | some _ => match calm M.P (execOp S.fl o) with
    | some (.value v) => match V.q97 v with
      | some u => k { v := u }
      | none => none
    | _ => none
def q81 (H : List HE) (b : Bid) : Bool :=
  match H[b.1]? with
  | some (.cells _ _ _) => Nat.beq b.2 0
  | some (.list _ _ _ _) => Nat.beq b.2 0
  | some (.many _ _ xs) => match xs[b.2]? with
    | some o => match o with
      | some _ => true
      | none => false
    | none => false
  | _ => false
def opDiv (op : BinOp) (x y : Value) (k : Out → Option α) : Option α :=
  match op, x, y with
  | .quo, .int j a, .int j' b => bif IntKind.beq' j j' then bif b == 0 then none else k { v := .lf (.int j (j.wrap (a.tdiv b))) } else none
  | .rem, .int j a, .int j' b => bif IntKind.beq' j j' then bif b == 0 then none else k { v := .lf (.int j (a.tmod b)) } else none
  | _, _, _ => none
def opSh (op : BinOp) (x y : Value) (k : Out → Option α) : Option α :=
  match op, x, y with
  | .shl, .int j a, .int _ b => bif decide (b < 0) then none else k { v := .lf (.int j (j.wrap (a * 2 ^ (min b.toNat j.bits)))) }
  | .shr, .int j a, .int _ b => bif decide (b < 0) then none else k { v := .lf (.int j (a.fdiv (2 ^ (min b.toNat j.bits)))) }
  | _, _, _ => none
def Err.isNil : Err → Bool
  | .nil => true
  | _ => false
def isConst : Operand → Bool
  | .const _ => true
  | _ => false
def nilB (d : Option TypeDesc) (v : V) : Option (Bool × Option Nat) :=
  match v with
  | .err e => match d with
    | some (.interface _) => some (e.isNil, none)
    | _ => none
  | .pin _ x => match d with
    | some (.pointer _) => some (x.isNone, none)
    | _ => none
  | .ptr b _ _ => match d with
    | some (.pointer _) => some (false, some b.1)
    | _ => none
  | _ => none
def idOf : Option Nat → List Nat
  | some b => [b]
  | none => []
def q9v (v : V) (u : Value) : Bool :=
  match v, u with
  | .err _, .nilIface => true
  | .pin _ _, .pointer none => true
  | .ptr _ _ _, .pointer none => true
  | _, _ => false
abbrev EqBy := TypeId → Value → Value → Option Bool
def ptrOk (S : St) : V → Bool
  | .ptr b _ _ => q81 S.heap b
  | _ => true
def opEq (M : Cfg) (E : EqBy) (S : St) (o : Oper) (t : TypeId) (x y : Operand) (neg : Bool) (k : Out → Option α) : Option α :=
  match S.ev x, S.ev y with
  | some (.lf u), some (.lf v) => z7w M S o k
  | some v, some (.lf u) => bif q9v v u && isConst y then (match nilB (M.P.underlying t) v with | some (b, f) => bif ptrOk S v then k { v := .lf (.bool (bif neg then !b else b)), rds := idOf f } else none | none => none) else none
  | some (.agg u), some (.agg v) => match q80 u, q80 v with
    | some u, some v => match E t (.agg u.toArray) (.agg v.toArray) with
      | some r => k { v := .lf (.bool (bif neg then !r else r)) }
      | none => none
    | _, _ => none
  | _, _ => none
def takeC (cs : List V) (off n : Nat) : Option (List V) := bif Nat.ble (off + n) cs.length then some ((cs.drop off).take n) else none
def putC (cs : List V) (off : Nat) (vs : List V) : Option (List V) := bif Nat.ble (off + vs.length) cs.length then some (cs.take off ++ (vs ++ cs.drop (off + vs.length))) else none
def z47 (M : Cfg) (t : TypeId) (cs : List V) (off : Nat) : Option V :=
  match j24 M.P t, M.P.info? t with
  | some true, some i => match takeC cs off i.size with
    | some vs => some (.agg vs)
    | none => none
  | some false, _ => cs[off]?
  | _, _ => none
def Ty.part : (t : Ty) → t.I → Nat → Nat → Option ((t' : Ty) × t'.I)
  | .pair a b, x, off, n => bif Nat.beq off 0 && Nat.beq n (a.size + b.size) then some ⟨.pair a b, x⟩
    else bif Nat.ble (off + n) a.size then a.part x.1 off n
    else bif Nat.ble a.size off then b.part x.2 (off - a.size) n else none
  | t, x, off, n => bif Nat.beq off 0 && Nat.beq n t.size then some ⟨t, x⟩ else none
def Ty.free : Ty → Bool
  | .own _ => false
  | .slice t => t.free
  | .ptr t => t.free
  | .pair a b => a.free && b.free
  | _ => true
def rowAt (H : List HE) (b : Bid) (i : Nat) (k : List V → Option α) : Option α :=
  match H[b.1]? with
  | some (.cells _ row cs) => match b.2 with
    | 0 => bif Nat.blt (i * row) cs.length then k (cs.drop (i * row)) else none
    | _ + 1 => none
  | some (.list _ t fs xs) => match b.2 with
    | 0 => match xs[i]? with
      | some x => k (t.cells fs x)
      | none => none
    | _ + 1 => none
  | some (.many _ t xs) => match xs[b.2]? with
    | some o => match o with
      | some ys => match ys[i]? with
        | some x => k (t.cells [] x)
        | none => none
      | none => none
    | none => none
  | _ => none
def z5f (H : List HE) (b : Bid) (i off : Nat) (vs : List V) (k : HE → Option α) : Option α :=
  match H[b.1]? with
  | some (.cells e row cs) => match b.2 with
    | 0 => match putC cs (i * row + off) vs with
      | some cs' => bif Nat.blt 0 cs.length then k (.cells e row cs') else none
      | none => none
    | _ + 1 => none
  | some (.list e t fs xs) => match b.2 with
    | 0 => match xs[i]? with
      | some x => match putC (t.cells fs x) off vs with
        | some cs' => match t.un1 fs cs' with
          | some y => k (.list e t fs (xs.set i y))
          | none => none
        | none => none
      | none => none
    | _ + 1 => none
  | some (.many e t xs) => match xs[b.2]? with
    | some o => match o with
      | some ys => match ys[i]? with
        | some x => match putC (t.cells [] x) off vs with
          | some cs' => match t.un1 [] cs' with
            | some y => k (.many e t (xs.set b.2 (some (ys.set i y))))
            | none => none
          | none => none
        | none => none
      | none => none
    | none => none
  | _ => none
def z2y (H : List HE) (F : Nat) : Nat :=
  match H[F]? with
  | some (.cells _ row _) => row
  | some (.list _ t _ _) => t.size
  | some (.many _ t _) => t.size
  | _ => 0
def lenAt (H : List HE) (b : Bid) : Option Nat :=
  match H[b.1]? with
  | some (.cells _ row cs) => match b.2, row with
    | 0, r + 1 => some (cs.length / (r + 1))
    | _, _ => none
  | some (.list _ _ _ xs) => match b.2 with
    | 0 => some xs.length
    | _ + 1 => none
  | some (.many _ _ xs) => match xs[b.2]? with
    | some o => match o with
      | some ys => some ys.length
      | none => none
    | none => none
  | _ => none
def opLoad (M : Cfg) (S : St) (t : TypeId) (x : V) (k : Out → Option α) : Option α :=
  match x with
  | .ptr b i off => rowAt S.heap b i fun cs => match z47 M t cs off with
    | some v => k { v := v, rds := [b.1] }
    | none => none
  | .pin ty x => match x with
    | some y => match z47 M t (ty.cells [] y) 0 with
      | some v => k { v := v }
      | none => none
    | none => none
  | _ => none
def j05 (M : Cfg) (S : St) (t : TypeId) (x v : V) (k : Out → Option α) : Option α :=
  match x, M.P.info? t with
  | .ptr b i off, some ti => bif v.isA && Nat.beq v.cells.length ti.size && v.cells.all V.one then z5f S.heap b i off v.cells fun he => k { v := .und, chg := [(b.1, he)] } else none
  | _, _ => none
def j0p (M : Cfg) (S : St) (s : TypeId) (x : V) (f : Nat) (k : Out → Option α) : Option α :=
  match M.P.underlying s with
  | some (.struct fs) => match fs[f]? with
    | some fd => match M.P.info? fd.type with
      | some i => bif Nat.beq i.size 0 then none else match x with
        | .ptr b r off => bif q81 S.heap b then k { v := .ptr b r (off + fd.offset), rds := [b.1] } else none
        | .pin ty y => match y with
          | some z => match ty.part z fd.offset i.size with
            | some ⟨t', p⟩ => k { v := .pin t' (some p) }
            | none => none
          | none => none
        | _ => none
      | none => none
    | none => none
  | _ => none
def inB (i : Value) (n : Nat) (k : Nat → Option α) : Option α :=
  match i with
  | .int _ j => bif decide (0 ≤ j) then (bif Nat.blt j.toNat n then k j.toNat else none) else none
  | _ => none
def j3l (i : Nat) (k : Nat → Option α) : Nat → Option α
  | 0 => none
  | n + 1 => bif Nat.beq i n then k n else j3l i k n
def j1o (H : List HE) (b : Bid) : Bool :=
  match H[b.1]? with
  | some (.cells _ _ _) => true
  | _ => false
def z0e (M : Cfg) (S : St) (t : TypeId) (x : V) (i : Value) (k : Out → Option α) : Option α :=
  match M.P.underlying t with
  | some (.slice e) => match M.P.info? e with
    | some ti => match x with
      | .own b => match lenAt S.heap b with
        | some n => bif Nat.beq (z2y S.heap b.1) ti.size then inB i n fun j => bif j1o S.heap b then j3l j (fun c => k { v := .ptr b c 0, rds := [b.1] }) n else k { v := .ptr b j 0, rds := [b.1] } else none
        | none => none
      | .sub b lo n => bif q81 S.heap b && Nat.beq (z2y S.heap b.1) ti.size then inB i n fun j => k { v := .ptr b (lo + j) 0, rds := [b.1] } else none
      | .deep ty xs => match i with
        | .int _ j => bif decide (0 ≤ j) && Nat.beq ty.size ti.size then (match xs[j.toNat]? with
          | some y => k { v := .pin ty (some y) }
          | none => none) else none
        | _ => none
      | _ => none
    | none => none
  | some (.array len e) => match M.P.info? e, x with
    | some ti, .ptr b r off => bif q81 S.heap b then inB i len fun j => k { v := .ptr b r (off + j * ti.size), rds := [b.1] } else none
    | _, _ => none
  | _ => none
def j1d (M : Cfg) (t : TypeId) (x : V) (i : Value) (k : Out → Option α) : Option α :=
  match M.P.underlying t, x with
  | some .string, .lf (.string s) => inB i s.size fun j => k { v := .lf (.int .u8 ((s[j]?).getD 0).toNat) }
  | some (.array len e), .agg cs => match M.P.info? e with
    | some ti => inB i len fun j => j3l j (fun c => match z47 M e cs (c * ti.size) with
      | some v => k { v := v }
      | none => none) len
    | none => none
  | _, _ => none
def j0m (place : Nat → Option (Nat × Nat)) : List (Nat × Option V) → List V → Option (List V)
  | [], cs => some cs
  | (i, some v) :: r, cs => match place i with
    | some (off, n) => bif v.isA && Nat.beq v.cells.length n && v.cells.all V.one then (match putC cs off v.cells with
      | some cs' => j0m place r cs'
      | none => none) else none
    | none => none
  | (_, none) :: _, _ => none
def placesOf (M : Cfg) : List Field → Option (List (Nat × Nat))
  | [] => some []
  | f :: r => match M.P.info? f.type, placesOf M r with
    | some i, some l => some ((f.offset, i.size) :: l)
    | _, _ => none
def zeroOf (M : Cfg) (t : TypeId) : Option (List V) :=
  match M.P.info? t with
  | some i => match i.zero with
    | some z => match V.q97 z with
      | some v => some v.cells
      | none => none
    | none => none
  | none => none
def j09 (M : Cfg) (S : St) (t : TypeId) (parts : List (Nat × Operand)) (k : Out → Option α) : Option α :=
  match M.P.underlying t, zeroOf M t with
  | some (.struct fs), some z => match placesOf M fs.toList with
    | some ps => match j0m (fun i => ps[i]?) (parts.map fun p => (p.1, S.ev p.2)) z with
      | some cs => k { v := .agg cs }
      | none => none
    | none => none
  | some (.array _ e), some z => match M.P.info? e with
    | some ti => match j0m (fun i => some (i * ti.size, ti.size)) (parts.map fun p => (p.1, S.ev p.2)) z with
      | some cs => k { v := .agg cs }
      | none => none
    | none => none
  | _, _ => none
def z1s (size : Nat) : Nat → List (Nat × Option V) → Option (List V)
  | _, [] => some []
  | i, (j, some v) :: r => bif Nat.beq i j && v.isA && Nat.beq v.cells.length size && v.cells.all V.one then (match z1s size (i + 1) r with | some vs => some (v.cells ++ vs) | none => none) else none
  | _, (_, none) :: _ => none
def q88 (M : Cfg) (S : St) (t : TypeId) (len : Nat) (parts : List (Nat × Operand)) (k : Out → Option α) : Option α :=
  match M.P.underlying t with
  | some (.slice e) => match M.P.info? e, zeroOf M e with
    | some ti, some z => match z1s ti.size 0 (parts.map fun p => (p.1, S.ev p.2)) with
      | some cs => bif Nat.beq parts.length len && Nat.blt 0 ti.size && Nat.ble (len * ti.size) 16777216 && Nat.beq z.length ti.size
        then k { v := .own (S.heap.length, 0), chg := [(S.heap.length, .cells e ti.size cs)] } else none
      | none => none
    | _, _ => none
  | _ => none
def hasB (l : List Nat) (t : Nat) : Bool := l.any fun u => Nat.beq u t
def q8a {T : Type} (f : List V → List Nat → Option (T × List V × List Nat)) : Nat → List V → List Nat → Option (List T × List Nat)
  | 0, _, _ => none
  | _ + 1, [], fz => some ([], fz)
  | n + 1, v :: vs, fz => match f (v :: vs) fz with
    | some (x, r, fz') => match q8a f n r fz' with
      | some (xs, fz'') => some (x :: xs, fz'')
      | none => none
    | none => none
def unF (t : Ty) (vs : List V) (fz : List Nat) : Option (t.I × List V × List Nat) :=
  bif t.free then (match t.un [] vs with | some (x, r) => some (x, r, fz) | none => none) else none
def frzL (H : List HE) : (t : Ty) → List V → List Nat → Option (t.I × List V × List Nat)
  | .slice t, v :: r, fz => match v with
    | .own b => match b.2, H[b.1]? with
      | 0, some (.list _ t' _ xs) => match Ty.cast (F := List) t' t xs with
        | some ys => bif t.free then some (ys, r, b.1 :: fz) else none
        | none => none
      | 0, some (.cells _ row cs) => bif Nat.beq row t.size then (match q8a (frzL H t) (cs.length + 1) cs fz with
        | some (ys, fz') => some (ys, r, b.1 :: fz')
        | none => none) else none
      | _, _ => none
    | .sub b lo n => match b.2, H[b.1]? with
      | 0, some (.list _ t' _ xs) => match Ty.cast (F := List) t' t xs with
        | some ys => bif t.free && Nat.ble (lo + n) ys.length then some ((ys.drop lo).take n, r, b.1 :: fz) else none
        | none => none
      | _, _ => none
    | v => unF (.slice t) (v :: r) fz
  | .ptr t, v :: r, fz => match v with
    | .ptr b i off => match b.2, i, off, H[b.1]? with
      | 0, 0, 0, some (.cells _ _ cs) => match frzL H t cs fz with
        | some (x, [], fz') => some (some x, r, b.1 :: fz')
        | _ => none
      | _, _, _, _ => none
    | v => unF (.ptr t) (v :: r) fz
  | .pair a b, vs, fz => match frzL H a vs fz with
    | some (x, r, fz') => match frzL H b r fz' with
      | some (y, r', fz'') => some ((x, y), r', fz'')
      | none => none
    | none => none
  | t, vs, fz => unF t vs fz
def j2u (H : List HE) (T : Ty) (vs : List V) : Option (T.I × List Nat) :=
  match frzL H T vs [] with
  | some (x, [], F :: fz) => some (x, F :: fz)
  | _ => none
def j0r (M : Cfg) (S : St) (t : TypeId) (len : Nat) (parts : List (Nat × Operand)) : Option Out :=
  match parts with
  | [(0, x)] => match S.ev x, M.P.underlying t with
    | some v, some (.slice e) => match M.P.info? e, zeroOf M e, M.frz e with
      | some ti, some z, some T => match j2u S.heap T v.cells with
        | some (y, fz) => bif Nat.beq len 1 && Nat.beq ti.size T.size && Nat.beq z.length T.size && Nat.ble T.size 16777216 && v.isA && v.cells.all V.one && Nat.beq v.cells.length T.size then some { v := .own (S.heap.length, 0), chg := fz.map (fun G => (G, HE.dead)) ++ [(S.heap.length, .list e T [] [y])] } else none
        | none => none
      | _, _, _ => none
    | _, _ => none
  | _ => none
def z65 (M : Cfg) (S : St) (t : TypeId) (x v : V) : Option (List V × List Nat) :=
  match x, M.frz t, M.P.info? t with
  | .ptr b i off, some T, some ti => match S.heap[b.1]? with
    | some (.list _ T' _ _) => bif T'.free then (match j2u S.heap T v.cells with
      | some (y, fz) => bif v.isA && Nat.beq v.cells.length ti.size && Nat.beq T.size ti.size && v.cells.all V.one && !hasB fz b.1 then some (T.cells [] y, fz) else none
      | none => none) else none
    | _ => none
  | _, _, _ => none
def z7t (M : Cfg) (S : St) (t : TypeId) (x v : V) (k : Out → Option α) : Option α :=
  match z65 M S t x v with
  | some p => match x with
    | .ptr b i off => z5f S.heap b i off p.1 fun he => k { v := .und, chg := p.2.map (fun G => (G, HE.dead)) ++ [(b.1, he)] }
    | _ => none
  | none => j05 M S t x v k
def q8v (M : Cfg) (S : St) (t : TypeId) (len : Nat) (parts : List (Nat × Operand)) (k : Out → Option α) : Option α :=
  match j0r M S t len parts with
  | some o => k o
  | none => q88 M S t len parts k
def z0o (M : Cfg) (S : St) (t : TypeId) (len cap : Value) (k : Out → Option α) : Option α :=
  match M.P.underlying t with
  | some (.slice e) => match M.P.info? e, zeroOf M e, M.ty e, len, cap with
    | some ti, some z, some ty, .int _ n, .int _ m => match ty.un1 [] z with
      | some x => bif decide (0 ≤ n) && decide (n ≤ 4000000) && (n == m) && Nat.blt 0 ti.size && Nat.beq z.length ti.size && Nat.ble ti.bytes 10000000
        then k { v := .own (S.heap.length, 0), chg := [(S.heap.length, .list e ty [] (List.replicate n.toNat x))] } else none
      | none => none
    | _, _, _, _, _ => none
  | _ => none
def q87 (M : Cfg) (S : St) (t : TypeId) (len cap : Value) (k : Out → Option α) : Option α :=
  match M.made t with
  | some (e', t') => match M.P.underlying t, len, cap with
    | some (.slice e), .int _ n, .int _ m => match M.P.info? e with
      | some ti => match ti.zero with
        | some (.slice none 0 0) => bif decide (0 ≤ n) && decide (n ≤ 4000000) && (n == m) && Nat.beq ti.size 1 && Nat.ble ti.bytes 10000000
          then k { v := .own (S.heap.length + 1, 0), chg := [(S.heap.length, .many e' t' (List.replicate n.toNat (some []))), (S.heap.length + 1, .list e (.own 0) [S.heap.length] (List.range n.toNat))] } else none
        | _ => none
      | none => none
    | _, _, _ => none
  | none => z0o M S t len cap k
def rowsOf (ty : Ty) (fs : List Nat) (row : Nat) (H : List HE) (x : V) (k : List ty.I → Option Nat → Option α) : Option α :=
  match x with
  | .lf (.slice none n _) => match n with
    | 0 => k [] none
    | _ + 1 => none
  | .deep t xs => match Ty.cast (F := List) t ty xs with
    | some ys => k ys none
    | none => none
  | .own b => match H[b.1]?, b.2 with
    | some (.list _ t fs' xs), 0 => match Ty.cast (F := List) t ty xs with
      | some ys => bif ty.free then k ys (some b.1) else none
      | none => none
    | some (.cells _ r cs), 0 => bif Nat.beq r row then (match ty.z01 fs (cs.length + 1) cs with
      | some ys => k ys (some b.1)
      | none => none) else none
    | some (.many _ t xss), i => match xss[i]? with
      | some o => match o with
        | some xs => match Ty.cast (F := List) t ty xs with
          | some ys => bif ty.free then k ys (some b.1) else none
          | none => none
        | none => none
      | none => none
    | _, _ => none
  | .sub b lo n => match b.2, H[b.1]? with
    | 0, some (.list _ t fs' xs) => match Ty.cast (F := List) t ty xs with
      | some ys => bif ty.free && Nat.ble (lo + n) ys.length then k ((ys.drop lo).take n) (some b.1) else none
      | none => none
    | _, _ => none
  | _ => none
def bytesOf (s : ByteArray) : List Int := s.data.toList.map fun b => (b.toNat : Int)
def strOf (l : List Int) : ByteArray := ⟨(l.map fun n => UInt8.ofNat n.toNat).toArray⟩
def growTo (S : St) (e : TypeId) (ty : Ty) (fs : List Nat) (old : Option Nat) (rds : List Nat) (xs : List ty.I) (m : Nat) (k : Out → Option α) : Option α :=
  bif Nat.ble m 4000000 then k { v := .own (S.heap.length, 0), chg := (match old with | some b => [(b, HE.dead)] | none => []) ++ [(S.heap.length, .list e ty fs xs)], rds := rds } else none
def baseOf (H : List HE) (e : TypeId) (ty : Ty) (row : Nat) (x : V) (k : (t : Ty) → List Nat → List t.I → Option Nat → Option α) : Option α :=
  match x with
  | .own b => match b.2, H[b.1]? with
    | 0, some (.list e0 tx fs xs) => bif Nat.beq e0 e && Nat.beq tx.size row then k tx fs xs (some b.1) else none
    | 0, some (.cells e0 r cs) => bif Nat.beq e0 e && Nat.beq r row && Nat.beq ty.size row then (match ty.z01 [] (cs.length + 1) cs with
      | some xs => k ty [] xs (some b.1)
      | none => none) else none
    | _, _ => none
  | .sub b lo n => match b.2, lo, H[b.1]? with
    | 0, 0, some (.list e0 tx fs xs) => bif Nat.beq e0 e && Nat.beq tx.size row && Nat.ble n xs.length then k tx fs (xs.take n) (some b.1) else none
    | _, _, _ => none
  | .lf (.slice none n c) => match n, c with
    | 0, 0 => bif Nat.beq ty.size row then k ty [] [] none else none
    | _, _ => none
  | _ => none
def apart2 : Option Nat → Option Nat → Bool
  | some a, some b => !Nat.beq a b
  | _, _ => true
def z26 (M : Cfg) (S : St) (ts : List TypeId) (x y : V) (k : Out → Option α) : Option α :=
  match ts with
  | [t, t'] => match M.P.underlying t with
    | some (.slice e) => match M.P.info? e, zeroOf M e, M.ty e with
      | some ti, some z, some ty => bif Nat.blt 0 ti.size && Nat.beq z.length ti.size && Nat.ble ti.bytes 10000000 && Nat.beq t t'
        then baseOf S.heap e ty ti.size x fun tx fs xs old => rowsOf tx fs ti.size S.heap y fun ys src => bif apart2 old src
          then growTo S e tx fs old (idOf src) (xs ++ ys) (xs.length + ys.length) k else none else none
      | _, _, _ => none
    | _ => none
  | _ => none
def z39 (M : Cfg) (S : St) (ts : List TypeId) (b : Bid) (e0 : TypeId) (tx : Ty) (xss : List (Option (List tx.I))) (y : V) (k : Out → Option α) : Option α :=
  match ts with
  | [t, t'] => match M.P.underlying t with
    | some (.slice e) => match M.P.info? e, zeroOf M e with
      | some ti, some z => match xss[b.2]? with
        | some o => match o with
          | some xs => bif Nat.blt 0 ti.size && Nat.beq z.length ti.size && Nat.ble ti.bytes 10000000 && Nat.beq t t' && Nat.beq e0 e && Nat.beq tx.size ti.size
            then rowsOf tx [] ti.size S.heap y fun ys src => bif apart2 (some b.1) src && Nat.ble (xs.length + ys.length) 4000000
              then k { v := .own (b.1, xss.length), chg := [(b.1, .many e0 tx (xss.set b.2 none ++ [some (xs ++ ys)]))], rds := idOf src } else none else none
          | none => none
        | none => none
      | _, _ => none
    | _ => none
  | _ => none
def z32 (M : Cfg) (S : St) (ts : List TypeId) (x y : V) (k : Out → Option α) : Option α :=
  match x with
  | .own b => match S.heap[b.1]? with
    | some (.many e0 tx xss) => z39 M S ts b e0 tx xss y k
    | _ => z26 M S ts x y k
  | _ => z26 M S ts x y k
def opCopy (M : Cfg) (S : St) (ts : List TypeId) (x y : V) (k : Out → Option α) : Option α :=
  match ts with
  | t :: _ => match M.P.underlying t with
    | some (.slice e) => match M.P.info? e, x with
      | some ti, .own b => match b.2, S.heap[b.1]? with
        | 0, some (.list e' ty fs xs) => rowsOf ty [] ti.size S.heap y fun ys src => bif Nat.beq ty.size ti.size && fs.isEmpty && apart2 (some b.1) src
          then k { v := .lf (.int .i64 ((min ys.length xs.length : Nat) : Int)), chg := [(b.1, .list e' ty fs (ys.take xs.length ++ xs.drop ys.length))], rds := idOf src } else none
        | _, _ => none
      | _, _ => none
    | _ => none
  | _ => none
def opLen (M : Cfg) (S : St) (ts : List TypeId) (x : V) (k : Out → Option α) : Option α :=
  match ts with
  | t :: _ => match M.P.underlying t with
    | some (.slice _) => match x with
      | .own b => match lenAt S.heap b with
        | some n => k { v := .lf (.int .i64 n), rds := [b.1] }
        | none => none
      | .sub b lo n => bif q81 S.heap b then k { v := .lf (.int .i64 n), rds := [b.1] } else none
      | .deep _ xs => k { v := .lf (.int .i64 xs.length) }
      | .lf (.slice none n _) => k { v := .lf (.int .i64 n) }
      | _ => none
    | some .string => match x with
      | .lf (.string s) => k { v := .lf (.int .i64 s.size) }
      | _ => none
    | _ => none
  | _ => none
def q73 : Option V → Nat → Option Int
  | none, d => some d
  | some (.lf (.int _ n)), _ => some n
  | _, _ => none
def z2a (M : Cfg) (S : St) (t : TypeId) (x : V) (lo hi : Option V) (k : Out → Option α) : Option α :=
  match M.P.underlying t with
  | some (.slice e) => match M.P.info? e with
    | some ti => match x with
      | .deep ty xs => match q73 lo 0, q73 hi xs.length with
        | some l, some h => bif decide (0 ≤ l) && decide (l ≤ h) && decide (h ≤ xs.length) && Nat.beq ty.size ti.size then k { v := .deep ty ((xs.take h.toNat).drop l.toNat) } else none
        | _, _ => none
      | .own b => match lenAt S.heap b with
        | some n => match q73 lo 0, q73 hi n with
          | some l, some h => bif Nat.beq (z2y S.heap b.1) ti.size && decide (0 ≤ l) && decide (l ≤ h) && decide (h ≤ n) then k { v := .sub b l.toNat (h.toNat - l.toNat), rds := [b.1] } else none
          | _, _ => none
        | none => none
      | .sub b l0 n => match q73 lo 0, q73 hi n with
        | some l, some h => bif q81 S.heap b && Nat.beq (z2y S.heap b.1) ti.size && decide (0 ≤ l) && decide (l ≤ h) && decide (h ≤ n) then k { v := .sub b (l0 + l.toNat) (h.toNat - l.toNat), rds := [b.1] } else none
        | _, _ => none
      | .lf (.slice none n c) => match n, c, q73 lo 0, q73 hi 0 with
        | 0, 0, some l, some h => bif decide (l = 0) && decide (h = 0) then k { v := x } else none
        | _, _, _, _ => none
      | _ => none
    | none => none
  | _ => none
def z3j (M : Cfg) (S : St) (o : Oper) (src dst : TypeId) (x : V) (k : Out → Option α) : Option α :=
  match x with
  | .deep ty xs => match M.P.underlying src, M.P.underlying dst with
    | some (.slice e), some .string => match M.P.underlying e, Ty.cast (F := List) ty (.int .u8) xs with
      | some (.int .u8), some ys => k { v := .lf (.string (strOf ys)) }
      | _, _ => none
    | _, _ => none
  | .own b => match M.P.underlying src, M.P.underlying dst with
    | some (.slice e), some .string => match M.P.underlying e with
      | some (.int .u8) => rowsOf (.int .u8) [] 1 S.heap x fun ys src => k { v := .lf (.string (strOf ys)), rds := idOf src }
      | _ => none
    | some (.slice _), some (.slice e) => match M.P.underlying e with
      | some (.int .u8) => match b.2, S.heap[b.1]? with
        | 0, some (.cells _ row cs) => match (Ty.int .u8).z01 [] (cs.length + 1) cs with
          | some (y :: ys) => bif Nat.beq src dst && Nat.beq row 1 then k { v := .deep (.int .u8) (y :: ys), chg := [(b.1, .dead)] } else none
          | _ => none
        | _, _ => none
      | _ => none
    | _, _ => none
  | .lf (.string s) => match M.P.underlying src, M.P.underlying dst with
    | some .string, some (.slice e) => match M.P.underlying e with
      | some (.int .u8) => bif Nat.ble s.size 4000000 then k { v := .deep (.int .u8) (bytesOf s) } else none
      | _ => none
    | _, _ => z7w M S o k
  | _ => z7w M S o k
def j1c (M : Cfg) (S : St) (t : TypeId) (x : V) (k : Out → Option α) : Option α :=
  match x with
  | .lf (.int .i64 n) => match M.P.underlying t with
    | some (.int _) => bif Nat.beq t M.errno then k { v := .err (.no n) } else none
    | _ => none
  | .ptr b i off => match M.P.underlying t with
    | some (.pointer _) => bif Nat.beq t M.placed && Nat.beq i 0 && Nat.beq off 0 then (match b.2, S.heap[b.1]? with
      | 0, some (.cells _ _ cs) => match Ty.un1 [] (.pair (.int .i64) .err) cs with
        | some p => k { v := .err (.at p.1 p.2), chg := [(b.1, .dead)] }
        | none => none
      | _, _ => none) else none
    | _ => none
  | _ => none
abbrev q13 (α : Type) := FuncId → List V → List HE → (Out → Option α) → Option α
def opCall (M : Cfg) (C : q13 α) (S : St) (o : Oper) (c : Call) (k : Out → Option α) : Option α :=
  match c.callee with
  | .value f => match S.ev f, S.evs c.args.toList with
    | some (.fn (.func g) first captured), some vs => C g (first ++ vs ++ captured) S.heap k
    | _, _ => none
  | .builtin .len => match S.evs c.args.toList with
    | some [x] => opLen M S c.argTypes.toList x k
    | _ => none
  | .builtin .append => match S.evs c.args.toList with
    | some [x, y] => z32 M S c.argTypes.toList x y k
    | _ => none
  | .builtin .copy => match S.evs c.args.toList with
    | some [x, y] => opCopy M S c.argTypes.toList x y k
    | _ => none
  | .builtin .min => z7w M S o k
  | .builtin .max => z7w M S o k
  | _ => none
def vop (M : Cfg) (C : q13 α) (E : EqBy) (S : St) (o : Oper) (k : Out → Option α) : Option α :=
  match o.op with
  | .move x => match S.ev x with | some v => k { v := v } | none => none
  | .assign x => match S.ev x with | some v => k { v := v } | none => none
  | .pick c x y => match S.ev c with
    | some (.lf (.bool t)) => bif t
      then (match S.ev x with | some v => k { v := v } | none => none)
      else (match S.ev y with | some v => k { v := v } | none => none)
    | _ => none
  | .alloc t => match zeroOf M t with
    | some cs => k { v := .ptr (S.heap.length, 0) 0 0, chg := [(S.heap.length, .cells t 0 cs)] }
    | none => none
  | .box t x => match S.ev x with
    | some v => bif v.isA && v.cells.all V.one then k { v := .ptr (S.heap.length, 0) 0 0, chg := [(S.heap.length, .cells t 0 v.cells)] } else none
    | none => none
  | .build t parts => j09 M S t parts.toList k
  | .buildSlice t len parts => q8v M S t len parts.toList k
  | .load t x => match S.ev x with | some v => opLoad M S t v k | none => none
  | .store t x y => match S.ev x, S.ev y with | some u, some v => z7t M S t u v k | _, _ => none
  | .nilCheck x => match S.ev x with
    | some (.ptr b i off) => bif q81 S.heap b then k { v := .ptr b i off, rds := [b.1] } else none
    | some (.pin t y) => match y with
      | some z => k { v := .pin t (some z) }
      | none => none
    | some (.fn f first captured) => match f with
      | .func g => k { v := .fn (.func g) first captured }
      | _ => none
    | _ => none
  | .binOp op t x y _ => match op with
    | .quo => match S.ev x, S.ev y with | some (.lf u), some (.lf v) => opDiv .quo u v k | _, _ => none
    | .rem => match S.ev x, S.ev y with | some (.lf u), some (.lf v) => opDiv .rem u v k | _, _ => none
    | .shl => match S.ev x, S.ev y with | some (.lf u), some (.lf v) => opSh .shl u v k | _, _ => none
    | .shr => match S.ev x, S.ev y with | some (.lf u), some (.lf v) => opSh .shr u v k | _, _ => none
    | .eql => opEq M E S o t x y false k
    | .neq => opEq M E S o t x y true k
    | _ => z7w M S o k
  | .unOp _ _ _ => z7w M S o k
  | .convert src dst x => match S.ev x with | some v => z3j M S o src dst v k | none => none
  | .makeInterface t x => match S.ev x with | some v => j1c M S t v k | none => none
  | .makeFunc fn first captured => match S.evs first.toList, S.evs captured.toList with
    | some fs, some cs => k { v := .fn fn fs cs }
    | _, _ => none
  | .makeSlice t len cap => match S.ev len, S.ev cap with | some (.lf n), some (.lf m) => q87 M S t n m k | _, _ => none
  | .slice t x lo hi mx => match mx with
    | none => match S.ev x, lo.map S.ev, hi.map S.ev with
      | some v, none, none => z2a M S t v none none k
      | some v, some (some l), none => z2a M S t v (some l) none k
      | some v, none, some (some h) => z2a M S t v none (some h) k
      | some v, some (some l), some (some h) => z2a M S t v (some l) (some h) k
      | _, _, _ => none
    | some _ => none
  | .fieldAddr s x f => match S.ev x with | some v => j0p M S s v f k | none => none
  | .field t x f => match S.ev x, M.P.underlying t with
    | some (.agg cs), some (.struct fs) => match fs[f]? with
      | some fd => match z47 M fd.type cs fd.offset with
        | some v => k { v := v }
        | none => none
      | none => none
    | _, _ => none
  | .indexAddr t x i => match S.ev x, S.ev i with | some u, some (.lf v) => z0e M S t u v k | _, _ => none
  | .index t x i => match S.ev x, S.ev i with | some u, some (.lf v) => j1d M t u v k | _, _ => none
  | .extract x i => match S.ev x with
    | some (.tup vs) => match vs[i]? with | some v => k { v := v } | none => none
    | _ => none
  | .call c => opCall M C S o c k
  | _ => none
structure Rec where
  puts : List Nat
  rds : List Nat
def z20 (out : Out) : Rec := { puts := out.chg.map (·.1), rds := out.rds }
def q5d : Out := { v := .und }
def j4d : Nat → List (Nat × HE) → Bool
  | _, [] => true
  | n, (F, _) :: r => bif Nat.blt F n then j4d n r else Nat.beq F n && j4d (n + 1) r
def z58 : List (Nat × HE) → Bool
  | [] => true
  | (F, _) :: r => !hasB (r.map (·.1)) F && z58 r
def z48 (S : St) (out : Out) : Bool := j4d S.heap.length out.chg && z58 out.chg
def vseq (M : Cfg) (C : q13 α) (E : EqBy) (ops : Array Oper) : List Oper → St → List Rec → (St → List Rec → Option α) → Option α
  | [], S, rs, k => k S rs
  | o :: rest, S, rs, k =>
    bif S.dstOk o then
      match o.guard with
      | none => vop M C E S o fun out => bif z48 S out then vseq M C E ops rest (S.put o out) (rs ++ [z20 out]) k else none
      | some (j, want) => match (ops[j]?).bind (·.dst) with
        | some d => match look S.env d with
          | some (.lf (.bool g)) => bif g
            then (bif want
              then vop M C E (S.know d (.lf (.bool true))) o fun out => bif z48 S out then vseq M C E ops rest ((S.know d (.lf (.bool true))).put o out) (rs ++ [z20 out]) k else none
              else vseq M C E ops rest ((S.know d (.lf (.bool true))).put o q5d) (rs ++ [z20 q5d]) k)
            else (bif want
              then vseq M C E ops rest ((S.know d (.lf (.bool false))).put o q5d) (rs ++ [z20 q5d]) k
              else vop M C E (S.know d (.lf (.bool false))) o fun out => bif z48 S out then vseq M C E ops rest ((S.know d (.lf (.bool false))).put o out) (rs ++ [z20 out]) k else none)
          | some (.tup _) => vseq M C E ops rest (S.put o q5d) (rs ++ [z20 q5d]) k
          | _ => none
        | none => none
    else none
end Go.Proofs.YtdjkdmjdcdljmaaGreatDoorY
namespace Go.Proofs.YtdjkdmjdcdljmaaGreatDoorY
open Go.RowKit
def All2 {α β : Type} (R : α → β → Prop) : List α → List β → Prop
  | [], [] => True
  | a :: l, b :: m => R a b ∧ All2 R l m
  | _, _ => False
theorem All2.mono {α β : Type} {R R' : α → β → Prop} : ∀ {l : List α} {m : List β}, (∀ a b, a ∈ l → R a b → R' a b) → All2 R l m → All2 R' l m
  | [], [], _, _ => trivial
  | a :: _, _ :: _, h, ⟨h1, h2⟩ => ⟨h _ _ (by simp) h1, All2.mono (fun x y hx => h x y (by simp [hx])) h2⟩
  | [], _ :: _, _, k => k.elim
  | _ :: _, [], _, k => k.elim
theorem All2.length {α β : Type} {R : α → β → Prop} : ∀ {l : List α} {m : List β}, All2 R l m → l.length = m.length
  | [], [], _ => rfl
  | _ :: l, _ :: m, ⟨_, h2⟩ => by simp [All2.length h2]
  | [], _ :: _, k => k.elim
  | _ :: _, [], k => k.elim
theorem All2.get {α β : Type} {R : α → β → Prop} : ∀ {l : List α} {m : List β} {i : Nat} {a : α}, All2 R l m → l[i]? = some a → ∃ b, m[i]? = some b ∧ R a b
  | _ :: l, b :: m, 0, a, ⟨h1, _⟩, e => ⟨b, rfl, by simp at e; exact e ▸ h1⟩
  | _ :: l, _ :: m, i + 1, a, ⟨_, h2⟩, e => by
    have := All2.get (i := i) h2 (by simpa using e)
    simpa using this
  | [], [], _, _, _, e => by simp at e
  | [], _ :: _, _, _, k, _ => k.elim
  | _ :: _, [], _, _, k, _ => k.elim
theorem All2.take {α β : Type} {R : α → β → Prop} : ∀ {l : List α} {m : List β} (n : Nat), All2 R l m → All2 R (l.take n) (m.take n)
  | _, _, 0, _ => by simp [All2]
  | [], [], _ + 1, _ => by simp [All2]
  | _ :: l, _ :: m, n + 1, ⟨h1, h2⟩ => ⟨h1, All2.take n h2⟩
  | [], _ :: _, _ + 1, k => k.elim
  | _ :: _, [], _ + 1, k => k.elim
theorem All2.drop {α β : Type} {R : α → β → Prop} : ∀ {l : List α} {m : List β} (n : Nat), All2 R l m → All2 R (l.drop n) (m.drop n)
  | _, _, 0, h => by simpa using h
  | [], [], _ + 1, _ => by simp [All2]
  | _ :: l, _ :: m, n + 1, ⟨h1, h2⟩ => by simpa using All2.drop n h2
  | [], _ :: _, _ + 1, k => k.elim
  | _ :: _, [], _ + 1, k => k.elim
theorem All2.append {α β : Type} {R : α → β → Prop} : ∀ {l : List α} {m : List β} {l' : List α} {m' : List β}, All2 R l m → All2 R l' m' → All2 R (l ++ l') (m ++ m')
  | [], [], _, _, _, h => by simpa using h
  | _ :: l, _ :: m, _, _, ⟨h1, h2⟩, h => ⟨h1, All2.append h2 h⟩
  | [], _ :: _, _, _, k, _ => k.elim
  | _ :: _, [], _, _, k, _ => k.elim
theorem All2.split {α β : Type} {R : α → β → Prop} : ∀ {l : List α} {m : List β} {l' : List α} {m' : List β}, l.length = m.length → All2 R (l ++ l') (m ++ m') → All2 R l m ∧ All2 R l' m'
  | [], [], _, _, _, h => ⟨trivial, by simpa using h⟩
  | _ :: l, _ :: m, _, _, e, h => by
    have h' : _ ∧ All2 R (l ++ _) (m ++ _) := h
    obtain ⟨h1, h2⟩ := All2.split (by simpa using e) h'.2
    exact ⟨⟨h'.1, h1⟩, h2⟩
  | [], _ :: _, _, _, e, _ => by simp at e
  | _ :: _, [], _, _, e, _ => by simp at e
theorem All2.q68 {α β : Type} {R : α → β → Prop} : ∀ {l l' : List α} {m : List β}, All2 R (l ++ l') m → ∃ m1 m2, m = m1 ++ m2 ∧ All2 R l m1 ∧ All2 R l' m2
  | [], _, m, h => ⟨[], m, rfl, trivial, h⟩
  | _ :: l, _, [], h => h.elim
  | _ :: l, _, b :: m, h => by
    have h' : _ ∧ All2 R (l ++ _) m := h
    obtain ⟨m1, m2, e, h1, h2⟩ := All2.q68 h'.2
    exact ⟨b :: m1, m2, by simp [e], ⟨h'.1, h1⟩, h2⟩
structure Slot where
  whole : Value
  real : Option Nat
  cap : Nat
  row : Nat
inductive Status
  | fresh
  | dead
  | alive (s : Slot)
abbrev Num := Nat → Nat → Status
def Num.real (σ : Num) (F k r : Nat) : Prop := ∃ s, σ F k = .alive s ∧ s.real = some r
def Num.own (σ : Num) (r : Nat) : Prop := ∃ F k, σ.real F k r
abbrev Zone := Nat → Prop
section
variable (M : Cfg)
def ErrR (Z : Zone) (w : World) : Err → Value → Prop
  | .nil, v => v = .nilIface
  | .no n, v => v = .iface M.errno (.int .i64 n)
  | .at p e, v => ∃ b cs el fr u post, v = .iface M.placed (.pointer (some ⟨b, 0, none⟩)) ∧ Z b ∧ w.heap[b]? = some (.cells cs el fr) ∧ cs.toList = .int .i64 p :: u :: post ∧ ErrR Z w e u
def DV (Z : Zone) (w : World) : (t : Ty) → t.I → List Value → Prop
  | .int k, n, vs => vs = [.int k n]
  | .bool, b, vs => vs = [.bool b]
  | .str, s, vs => vs = [.string s]
  | .err, e, vs => ∃ v, vs = [v] ∧ ErrR M Z w e v
  | .own _, _, _ => False
  | .slice t, xs, vs => ∃ a cap, vs = [.slice a xs.length cap] ∧ xs.length ≤ cap ∧ (xs = [] ∨
      ∃ b off cs el fr pre post, ∃ rows : List (List Value), a = some ⟨b, off, none⟩ ∧ Z b ∧ w.heap[b]? = some (.cells cs el fr) ∧ cs.toList = pre ++ (rows.flatten ++ post) ∧ pre.length = off ∧ All2 (DV Z w t) xs rows)
  | .ptr t, x, vs => match x with
    | none => vs = [.pointer none]
    | some y => ∃ b off cs el fr pre row post, vs = [.pointer (some ⟨b, off, none⟩)] ∧ Z b ∧ w.heap[b]? = some (.cells cs el fr) ∧ cs.toList = pre ++ (row ++ post) ∧ pre.length = off ∧ DV Z w t y row
  | .pair a b, x, vs => ∃ l m, vs = l ++ m ∧ DV Z w a x.1 l ∧ DV Z w b x.2 m
mutual
def RV (σ : Num) (Z : Zone) (w : World) : V → Value → Prop
  | .lf v, v' => z0f v = true ∧ v' = v
  | .err e, v' => ErrR M Z w e v'
  | .deep t xs, v' => DV M Z w (.slice t) xs [v']
  | .pin t x, v' => DV M Z w (.ptr t) x [v']
  | .own b, v' => match σ b.1 b.2 with
    | .fresh => False
    | .dead => v'.oneCell' = true
    | .alive s => v' = s.whole ∧ v'.oneCell' = true
  | .sub b lo n, v' => match σ b.1 b.2 with
    | .fresh => False
    | .dead => v'.oneCell' = true
    | .alive s => (s.real = none ∧ n = 0 ∧ v' = s.whole ∧ ∃ a, v' = .slice a 0 0) ∨ ∃ r cap off, s.real = some r ∧ v' = .slice (some ⟨r, off, none⟩) n cap ∧ n ≤ cap ∧ (n = 0 ∨ off = lo * s.row) ∧ (lo = 0 → cap = s.cap ∧ off = 0)
  | .ptr b i off, v' => match σ b.1 b.2 with
    | .fresh => False
    | .dead => v'.oneCell' = true
    | .alive s => ∃ r, s.real = some r ∧ v' = .pointer (some ⟨r, i * s.row + off, none⟩)
  | .fn f first captured, v' => ∃ fs cs, v' = .func f fs cs ∧ RVs σ Z w first fs.toList ∧ RVs σ Z w captured cs.toList
  | .agg cs, v' => ∃ cs', v' = .agg cs' ∧ cs.all V.one = true ∧ RVs σ Z w cs cs'.toList
  | .tup vs, v' => ∃ vs', v' = .tuple vs' ∧ vs.all V.isA = true ∧ RVs σ Z w vs vs'.toList
def RVs (σ : Num) (Z : Zone) (w : World) : List V → List Value → Prop
  | [], vs => vs = []
  | v :: l, vs => ∃ v' m, vs = v' :: m ∧ RV σ Z w v v' ∧ RVs σ Z w l m
end
end
end Go.Proofs.YtdjkdmjdcdljmaaGreatDoorY
namespace Go.Proofs.YtdjkdmjdcdljmaaGreatDoorY
open Go.RowKit
variable {M : Cfg}
theorem q5m {σ : Num} {Z : Zone} {w : World} : ∀ {l : List V} {m : List Value}, RVs M σ Z w l m ↔ All2 (RV M σ Z w) l m
  | [], [] => by simp [RVs, All2]
  | [], _ :: _ => by simp [RVs, All2]
  | v :: l, [] => by simp [RVs, All2]
  | v :: l, u :: m => by
    simp only [RVs, All2, List.cons.injEq]
    constructor
    · rintro ⟨v', m', ⟨rfl, rfl⟩, h1, h2⟩; exact ⟨h1, q5m.1 h2⟩
    · rintro ⟨h1, h2⟩; exact ⟨u, m, ⟨rfl, rfl⟩, h1, q5m.2 h2⟩
theorem RVs.length {σ : Num} {Z : Zone} {w : World} {l : List V} {m : List Value} (h : RVs M σ Z w l m) : l.length = m.length := (q5m.1 h).length
theorem RVs.append {σ : Num} {Z : Zone} {w : World} {l l' : List V} {m m' : List Value} (h : RVs M σ Z w l m) (h' : RVs M σ Z w l' m') : RVs M σ Z w (l ++ l') (m ++ m') := q5m.2 ((q5m.1 h).append (q5m.1 h'))
theorem RVs.take {σ : Num} {Z : Zone} {w : World} {l : List V} {m : List Value} (n : Nat) (h : RVs M σ Z w l m) : RVs M σ Z w (l.take n) (m.take n) := q5m.2 ((q5m.1 h).take n)
theorem RVs.drop {σ : Num} {Z : Zone} {w : World} {l : List V} {m : List Value} (n : Nat) (h : RVs M σ Z w l m) : RVs M σ Z w (l.drop n) (m.drop n) := q5m.2 ((q5m.1 h).drop n)
theorem RVs.get {σ : Num} {Z : Zone} {w : World} {l : List V} {m : List Value} {i : Nat} {v : V} (h : RVs M σ Z w l m) (e : l[i]? = some v) : ∃ v', m[i]? = some v' ∧ RV M σ Z w v v' := (q5m.1 h).get e
theorem RVs.cons {σ : Num} {Z : Zone} {w : World} {v : V} {l : List V} {m : List Value} (h : RVs M σ Z w (v :: l) m) : ∃ v' m', m = v' :: m' ∧ RV M σ Z w v v' ∧ RVs M σ Z w l m' := by
  simpa only [RVs] using h
theorem RVs.one {σ : Num} {Z : Zone} {w : World} {v : V} {v' : Value} : RVs M σ Z w [v] [v'] ↔ RV M σ Z w v v' := by
  rw [q5m]; simp [All2]
theorem RVs.q68 {σ : Num} {Z : Zone} {w : World} {l l' : List V} {m : List Value} (h : RVs M σ Z w (l ++ l') m) : ∃ m1 m2, m = m1 ++ m2 ∧ RVs M σ Z w l m1 ∧ RVs M σ Z w l' m2 := by
  obtain ⟨m1, m2, e, h1, h2⟩ := (q5m.1 h).q68
  exact ⟨m1, m2, e, q5m.2 h1, q5m.2 h2⟩
inductive StLe : Status → Status → Prop
  | same (s : Status) : StLe s s
  | died (s : Slot) : StLe (.alive s) .dead
  | born (s : Status) : StLe .fresh s
theorem StLe.trans {a b c : Status} (h : StLe a b) (k : StLe b c) : StLe a c := by
  cases h with
  | same => exact k
  | died s => cases k; exact .died s
  | born s => exact .born c
structure Le (σ : Num) (Z : Zone) (w : World) (σ' : Num) (Z' : Zone) (w' : World) : Prop where
  st : ∀ F k, StLe (σ F k) (σ' F k)
  zone : ∀ r, Z r → Z' r
  keep : ∀ r, Z r → w'.heap[r]? = w.heap[r]?
theorem Le.refl (σ : Num) (Z : Zone) (w : World) : Le σ Z w σ Z w := ⟨fun _ _ => .same _, fun _ h => h, fun _ _ => rfl⟩
theorem Le.trans {σ σ' σ'' : Num} {Z Z' Z'' : Zone} {w w' w'' : World} (h : Le σ Z w σ' Z' w') (k : Le σ' Z' w' σ'' Z'' w'') : Le σ Z w σ'' Z'' w'' :=
  ⟨fun F i => (h.st F i).trans (k.st F i), fun r hr => k.zone r (h.zone r hr), fun r hr => (k.keep r (h.zone r hr)).trans (h.keep r hr)⟩
theorem ErrR.mono {Z Z' : Zone} {w w' : World} (hz : ∀ r, Z r → Z' r) (hk : ∀ r, Z r → w'.heap[r]? = w.heap[r]?) : ∀ {e : Err} {v : Value}, ErrR M Z w e v → ErrR M Z' w' e v
  | .nil, _, h => h
  | .no _, _, h => h
  | .at p e, v, h => by
    obtain ⟨b, cs, el, fr, u, post, h1, h2, h3, h4, h5⟩ := h
    exact ⟨b, cs, el, fr, u, post, h1, hz b h2, (hk b h2).trans h3, h4, ErrR.mono hz hk h5⟩
theorem DV.mono {Z Z' : Zone} {w w' : World} (hz : ∀ r, Z r → Z' r) (hk : ∀ r, Z r → w'.heap[r]? = w.heap[r]?) : ∀ {t : Ty} {x : t.I} {vs : List Value}, DV M Z w t x vs → DV M Z' w' t x vs
  | .int _, _, _, h => h
  | .bool, _, _, h => h
  | .str, _, _, h => h
  | .err, _, _, ⟨v, h1, h2⟩ => ⟨v, h1, ErrR.mono hz hk h2⟩
  | .own _, _, _, h => h
  | .slice t, xs, vs, h => by
    obtain ⟨a, cap, h1, h0, h2⟩ := h
    refine ⟨a, cap, h1, h0, h2.imp id ?_⟩
    rintro ⟨b, off, cs, el, fr, pre, post, rows, h3, h4, h5, h6, h7, h8⟩
    exact ⟨b, off, cs, el, fr, pre, post, rows, h3, hz b h4, (hk b h4).trans h5, h6, h7, h8.mono fun _ _ _ h => DV.mono hz hk h⟩
  | .ptr t, none, _, h => h
  | .ptr t, some y, vs, h => by
    obtain ⟨b, off, cs, el, fr, pre, row, post, h1, h4, h5, h6, h7, h8⟩ := h
    exact ⟨b, off, cs, el, fr, pre, row, post, h1, hz b h4, (hk b h4).trans h5, h6, h7, DV.mono hz hk h8⟩
  | .pair a b, x, vs, h => by
    obtain ⟨l, m, h1, h2, h3⟩ := h
    exact ⟨l, m, h1, DV.mono hz hk h2, DV.mono hz hk h3⟩
mutual
theorem RV.mono {σ σ' : Num} {Z Z' : Zone} {w w' : World} (h : Le σ Z w σ' Z' w') : ∀ {v : V} {v' : Value}, RV M σ Z w v v' → RV M σ' Z' w' v v'
  | .lf _, _, k => k
  | .err _, _, k => by simp only [RV] at k ⊢; exact ErrR.mono h.zone h.keep k
  | .deep _ _, _, k => by simp only [RV] at k ⊢; exact DV.mono h.zone h.keep k
  | .pin _ _, _, k => by simp only [RV] at k ⊢; exact DV.mono h.zone h.keep k
  | .own b, v', k => by
    simp only [RV] at k ⊢
    have hs := h.st b.1 b.2
    generalize σ b.1 b.2 = s at hs k
    generalize σ' b.1 b.2 = s' at hs
    cases hs with
    | same => exact k
    | died s => exact k.2
    | born s => exact k.elim
  | .sub b lo n, v', k => by
    simp only [RV] at k ⊢
    have hs := h.st b.1 b.2
    generalize σ b.1 b.2 = s at hs k
    generalize σ' b.1 b.2 = s' at hs
    cases hs with
    | same => exact k
    | died s => rcases k with ⟨_, _, _, a, rfl⟩ | ⟨r, cap, off, _, rfl, _⟩ <;> rfl
    | born s => exact k.elim
  | .ptr b i off, v', k => by
    simp only [RV] at k ⊢
    have hs := h.st b.1 b.2
    generalize σ b.1 b.2 = s at hs k
    generalize σ' b.1 b.2 = s' at hs
    cases hs with
    | same => exact k
    | died s => obtain ⟨r, _, rfl⟩ := k; rfl
    | born s => exact k.elim
  | .fn f first captured, v', k => by
    simp only [RV] at k ⊢
    obtain ⟨fs, cs, h1, h2, h3⟩ := k
    exact ⟨fs, cs, h1, RVs.mono h h2, RVs.mono h h3⟩
  | .agg cs, v', k => by
    simp only [RV] at k ⊢
    obtain ⟨cs', h1, h2, h3⟩ := k
    exact ⟨cs', h1, h2, RVs.mono h h3⟩
  | .tup vs, v', k => by
    simp only [RV] at k ⊢
    obtain ⟨cs', h1, h2, h3⟩ := k
    exact ⟨cs', h1, h2, RVs.mono h h3⟩
theorem RVs.mono {σ σ' : Num} {Z Z' : Zone} {w w' : World} (h : Le σ Z w σ' Z' w') : ∀ {l : List V} {m : List Value}, RVs M σ Z w l m → RVs M σ' Z' w' l m
  | [], _, k => k
  | v :: l, m, k => by
    simp only [RVs] at k ⊢
    obtain ⟨v', m', e, h1, h2⟩ := k
    exact ⟨v', m', e, RV.mono h h1, RVs.mono h h2⟩
end
theorem leaf_one {v : Value} (h : z0f v = true) : v.oneCell' = true := by cases v <;> first | rfl | cases h
theorem one_cells {v : Value} (h : v.oneCell' = true) : v.cells = #[v] := by cases v <;> first | rfl | cases h
theorem ErrR.one {Z : Zone} {w : World} {e : Err} {v : Value} (h : ErrR M Z w e v) : v.oneCell' = true := by
  cases e with
  | nil => simp only [ErrR] at h; subst h; rfl
  | no n => simp only [ErrR] at h; subst h; rfl
  | «at» p e => obtain ⟨_, _, _, _, _, _, rfl, _⟩ := h; rfl
theorem RV.one {σ : Num} {Z : Zone} {w : World} {v : V} {v' : Value} (hv : v.one = true) (h : RV M σ Z w v v') : v'.oneCell' = true := by
  cases v with
  | lf v => simp only [RV] at h; rw [h.2]; exact leaf_one h.1
  | err e => simp only [RV] at h; exact h.one
  | deep t xs => simp only [RV, DV] at h; obtain ⟨a, cap, h1, _⟩ := h; simp at h1; subst h1; rfl
  | pin t x =>
    simp only [RV] at h
    cases x with
    | none => simp only [DV] at h; simp at h; subst h; rfl
    | some y => simp only [DV] at h; obtain ⟨_, _, _, _, _, _, _, _, h1, _⟩ := h; simp at h1; subst h1; rfl
  | own b =>
    simp only [RV] at h
    split at h
    · exact h.elim
    · exact h
    · exact h.2
  | sub b lo n =>
    simp only [RV] at h
    split at h
    · exact h.elim
    · exact h
    · rcases h with ⟨_, _, _, a, rfl⟩ | ⟨_, _, _, _, rfl, _⟩ <;> rfl
  | ptr b i off =>
    simp only [RV] at h
    split at h
    · exact h.elim
    · exact h
    · obtain ⟨_, _, rfl⟩ := h; rfl
  | fn f a b => simp only [RV] at h; obtain ⟨_, _, rfl, _⟩ := h; rfl
  | agg cs => cases hv
  | tup cs => cases hv
theorem RVs.ones {σ : Num} {Z : Zone} {w : World} {l : List V} {m : List Value} (hl : l.all V.one = true) (h : RVs M σ Z w l m) : ∀ v ∈ m, v.oneCell' = true := by
  induction l generalizing m with
  | nil => simp only [RVs] at h; subst h; simp
  | cons v l ih =>
    obtain ⟨v', m', rfl, h1, h2⟩ := h.cons
    simp only [List.all_cons, Bool.and_eq_true] at hl
    intro u hu
    rcases List.mem_cons.1 hu with rfl | hu
    · exact h1.one hl.1
    · exact ih hl.2 h2 u hu
theorem RV.cells {σ : Num} {Z : Zone} {w : World} {v : V} {v' : Value} (hv : v.isA = true) (h : RV M σ Z w v v') : RVs M σ Z w v.cells v'.cells.toList := by
  cases v with
  | agg cs =>
    simp only [RV] at h
    obtain ⟨cs', rfl, _, h2⟩ := h
    exact h2
  | tup cs => cases hv
  | _ =>
    have := RV.one rfl h
    rw [one_cells this]
    exact RVs.one.2 h
theorem z4q {σ : Num} {Z : Zone} {w : World} : ∀ {l : List V} {us vs : List Value}, q80 l = some us → RVs M σ Z w l vs → vs = us
  | [], us, vs, h, k => by simp [q80] at h; simp only [RVs] at k; rw [k, h]
  | v :: l, us, vs, h, k => by
    obtain ⟨v', m, rfl, h1, h2⟩ := k.cons
    cases v <;> simp [q80, V.leaf?] at h
    case lf u =>
      cases hr : q80 l with
      | none => simp [hr] at h
      | some ws =>
        simp [hr] at h
        subst h
        simp only [RV] at h1
        rw [h1.2, z4q hr h2]
theorem RV.flat {σ : Num} {Z : Zone} {w : World} {v : V} {u v' : Value} (hv : v.j0h = some u) (h : RV M σ Z w v v') : v' = u := by
  cases v <;> simp [V.j0h] at hv
  case lf x => simp only [RV] at h; rw [h.2, hv]
  case agg cs =>
    cases hr : q80 cs with
    | none => simp [hr] at hv
    | some us =>
      simp [hr] at hv
      subst hv
      simp only [RV] at h
      obtain ⟨cs', rfl, _, h2⟩ := h
      rw [← z4q hr h2]
theorem RVs.lfs {σ : Num} {Z : Zone} {w : World} : ∀ {l : List Value}, l.all z0f = true → RVs M σ Z w (l.map .lf) l
  | [], _ => by simp [RVs]
  | v :: l, h => by
    simp only [List.all_cons, Bool.and_eq_true] at h
    simp only [List.map_cons, RVs]
    exact ⟨v, l, rfl, by simp only [RV]; exact ⟨h.1, by trivial⟩, RVs.lfs h.2⟩
theorem z57 (l : List Value) : (l.map V.lf).all V.one = true := by
  induction l with
  | nil => rfl
  | cons v l ih => simp only [List.map_cons, List.all_cons, ih, V.one, Bool.and_self]
theorem RV.q97 {σ : Num} {Z : Zone} {w : World} {u : Value} {v : V} (h : V.q97 u = some v) : RV M σ Z w v u := by
  unfold V.q97 at h
  split at h
  · rename_i cs
    cases hl : cs.toList.all z0f with
    | false => rw [hl] at h; simp at h
    | true =>
      rw [hl] at h
      simp at h
      subst h
      simp only [RV]
      have := RVs.lfs (M := M) (σ := σ) (Z := Z) (w := w) hl
      refine ⟨cs, rfl, ?_, ?_⟩
      · have h2 := z57 cs.toList
        simpa using h2
      · simpa using this
  · cases hl : z0f u with
    | false => rw [hl] at h; simp at h
    | true =>
      rw [hl] at h
      simp at h
      subst h
      simp only [RV]
      exact ⟨hl, by trivial⟩
theorem Ty.q40 (fs : List Nat) : ∀ (t : Ty) (x : t.I), (t.cells fs x).length = t.size
  | .int _, _ | .bool, _ | .str, _ | .err, _ | .own _, _ | .slice _, _ | .ptr _, _ => rfl
  | .pair a b, x => by simp [Ty.cells, Ty.size, Ty.q40 fs a, Ty.q40 fs b]
theorem Ty.q4z (fs : List Nat) : ∀ (t : Ty) (x : t.I), (t.cells fs x).all V.one = true
  | .int _, _ | .bool, _ | .str, _ | .err, _ | .own _, _ | .slice _, _ | .ptr _, _ => rfl
  | .pair a b, x => by simp only [Ty.cells, List.all_append, Ty.q4z fs a, Ty.q4z fs b, Bool.and_self]
theorem Ty.size_pos : ∀ t : Ty, 0 < t.size
  | .int _ | .bool | .str | .err | .own _ | .slice _ | .ptr _ => Nat.one_pos
  | .pair a b => Nat.lt_of_lt_of_le (Ty.size_pos a) (Nat.le_add_right _ _)
theorem DV.rvs {σ : Num} {Z : Zone} {w : World} (fs : List Nat) : ∀ {t : Ty} {x : t.I} {vs : List Value}, DV M Z w t x vs → RVs M σ Z w (t.cells fs x) vs
  | .int k, n, vs, h => by simp only [DV] at h; subst h; exact RVs.one.2 (by simp only [RV]; exact ⟨rfl, by trivial⟩)
  | .bool, n, vs, h => by simp only [DV] at h; subst h; exact RVs.one.2 (by simp only [RV]; exact ⟨rfl, by trivial⟩)
  | .str, n, vs, h => by simp only [DV] at h; subst h; exact RVs.one.2 (by simp only [RV]; exact ⟨rfl, by trivial⟩)
  | .err, n, vs, h => by simp only [DV] at h; obtain ⟨v, rfl, h⟩ := h; exact RVs.one.2 (by simp only [RV]; exact h)
  | .own _, _, _, h => h.elim
  | .slice t, xs, vs, h => by
    have h' := h
    simp only [DV] at h'
    obtain ⟨a, cap, rfl, _⟩ := h'
    exact RVs.one.2 (by simp only [RV]; exact h)
  | .ptr t, none, vs, h => by
    have h' := h
    simp only [DV] at h'
    subst h'
    exact RVs.one.2 (by simp only [RV]; exact h)
  | .ptr t, some y, vs, h => by
    have h' := h
    simp only [DV] at h'
    obtain ⟨_, _, _, _, _, _, _, _, rfl, _⟩ := h'
    exact RVs.one.2 (by simp only [RV]; exact h)
  | .pair a b, x, vs, h => by
    simp only [DV] at h
    obtain ⟨l, m, rfl, h1, h2⟩ := h
    exact (DV.rvs fs h1).append (DV.rvs fs h2)
theorem DV.length {Z : Zone} {w : World} {t : Ty} {x : t.I} {vs : List Value} (h : DV M Z w t x vs) : vs.length = t.size := by
  have := (DV.rvs (σ := fun _ _ => .dead) [] h).length
  rw [← this, Ty.q40]
theorem RVs.dv {σ : Num} {Z : Zone} {w : World} (fs : List Nat) : ∀ {t : Ty} {x : t.I} {vs : List Value}, t.free = true → RVs M σ Z w (t.cells fs x) vs → DV M Z w t x vs
  | .int k, n, vs, _, h => by
    obtain ⟨v, m, rfl, h1, h2⟩ := h.cons
    simp only [RVs] at h2; subst h2
    simp only [RV] at h1
    simp only [DV]; rw [h1.2]
  | .bool, n, vs, _, h => by
    obtain ⟨v, m, rfl, h1, h2⟩ := h.cons
    simp only [RVs] at h2; subst h2
    simp only [RV] at h1
    simp only [DV]; rw [h1.2]
  | .str, n, vs, _, h => by
    obtain ⟨v, m, rfl, h1, h2⟩ := h.cons
    simp only [RVs] at h2; subst h2
    simp only [RV] at h1
    simp only [DV]; rw [h1.2]
  | .err, n, vs, _, h => by
    obtain ⟨v, m, rfl, h1, h2⟩ := h.cons
    simp only [RVs] at h2; subst h2
    simp only [RV] at h1
    exact ⟨v, rfl, h1⟩
  | .own _, _, _, hf, _ => by cases hf
  | .slice t, xs, vs, _, h => by
    obtain ⟨v, m, rfl, h1, h2⟩ := h.cons
    simp only [RVs] at h2; subst h2
    simp only [RV] at h1
    exact h1
  | .ptr t, x, vs, _, h => by
    obtain ⟨v, m, rfl, h1, h2⟩ := h.cons
    simp only [RVs] at h2; subst h2
    simp only [RV] at h1
    exact h1
  | .pair a b, x, vs, hf, h => by
    simp only [Ty.free, Bool.and_eq_true] at hf
    simp only [Ty.cells] at h
    obtain ⟨l, m, rfl, h1, h2⟩ := h.q68
    exact ⟨l, m, rfl, RVs.dv fs hf.1 h1, RVs.dv fs hf.2 h2⟩
theorem Ty.q33 {F : Type → Type} {t t' : Ty} {x : F t.I} {y : F t'.I} (h : Ty.cast t t' x = some y) : ∃ e : t = t', y = e ▸ x := by
  unfold Ty.cast at h
  split at h
  · rename_i hb
    exact ⟨Ty.beq_eq hb, by simpa using h.symm⟩
  · cases h
theorem Ty.z4v {σ : Num} {Z : Zone} {w : World} {fs : List Nat} : ∀ {t : Ty} {cs : List V} {x : t.I} {r : List V} {vs : List Value}, t.un fs cs = some (x, r) → RVs M σ Z w cs vs →
    ∃ l m, vs = l ++ m ∧ RVs M σ Z w (t.cells fs x) l ∧ RVs M σ Z w r m
  | t, [], x, r, vs, h, _ => by
    induction t with
    | pair a b iha ihb =>
      simp only [Ty.un] at h
      split at h
      · rename_i y r' hy; exact absurd hy (by
          intro hy
          have : ∀ (t : Ty), t.un fs [] = none := by
            intro t
            induction t with
            | pair a b ia ib => simp [Ty.un, ia]
            | _ => rfl
          rw [this] at hy; cases hy)
      · cases h
    | _ => simp [Ty.un] at h
  | .int k, v :: cs, x, r, vs, h, hv => by
    obtain ⟨v', m, rfl, h1, h2⟩ := hv.cons
    simp only [Ty.un] at h
    split at h
    · rename_i k' n
      cases hk : IntKind.beq' k' k with
      | false => simp [hk] at h
      | true =>
        simp only [hk, cond_true, Option.some.injEq, Prod.mk.injEq] at h
        obtain ⟨rfl, rfl⟩ := h
        have := IntKind.beq'_eq hk
        subst this
        exact ⟨[v'], m, rfl, RVs.one.2 h1, h2⟩
    · cases h
  | .bool, v :: cs, x, r, vs, h, hv => by
    obtain ⟨v', m, rfl, h1, h2⟩ := hv.cons
    simp only [Ty.un] at h
    split at h
    · simp only [Option.some.injEq, Prod.mk.injEq] at h
      obtain ⟨rfl, rfl⟩ := h
      exact ⟨[v'], m, rfl, RVs.one.2 h1, h2⟩
    · cases h
  | .str, v :: cs, x, r, vs, h, hv => by
    obtain ⟨v', m, rfl, h1, h2⟩ := hv.cons
    simp only [Ty.un] at h
    split at h
    · simp only [Option.some.injEq, Prod.mk.injEq] at h
      obtain ⟨rfl, rfl⟩ := h
      exact ⟨[v'], m, rfl, RVs.one.2 h1, h2⟩
    · cases h
  | .err, v :: cs, x, r, vs, h, hv => by
    obtain ⟨v', m, rfl, h1, h2⟩ := hv.cons
    simp only [Ty.un] at h
    split at h
    · simp only [Option.some.injEq, Prod.mk.injEq] at h
      obtain ⟨rfl, rfl⟩ := h
      exact ⟨[v'], m, rfl, RVs.one.2 h1, h2⟩
    · simp only [Option.some.injEq, Prod.mk.injEq] at h
      obtain ⟨rfl, rfl⟩ := h
      simp only [RV] at h1
      exact ⟨[v'], m, rfl, RVs.one.2 (by simp only [RV, ErrR]; exact h1.2), h2⟩
    · cases h
  | .own j, v :: cs, x, r, vs, h, hv => by
    obtain ⟨v', m, rfl, h1, h2⟩ := hv.cons
    simp only [Ty.un] at h
    split at h
    · rename_i f k
      cases hk : (Nat.beq f (fs.getD j 0)) with
      | false => rw [hk] at h; cases h
      | true =>
        rw [hk] at h
        simp only [cond_true, Option.some.injEq, Prod.mk.injEq] at h
        obtain ⟨rfl, rfl⟩ := h
        have := Nat.eq_of_beq_eq_true hk
        subst this
        exact ⟨[v'], m, rfl, RVs.one.2 h1, h2⟩
    · cases h
  | .slice t, v :: cs, x, r, vs, h, hv => by
    obtain ⟨v', m, rfl, h1, h2⟩ := hv.cons
    simp only [Ty.un] at h
    split at h
    · rename_i t' xs
      split at h
      · rename_i ys hys
        simp only [Option.some.injEq, Prod.mk.injEq] at h
        obtain ⟨rfl, rfl⟩ := h
        obtain ⟨e, hy⟩ := Ty.q33 hys
        subst e
        subst hy
        exact ⟨[v'], m, rfl, RVs.one.2 h1, h2⟩
      · cases h
    · split at h
      · simp only [Option.some.injEq, Prod.mk.injEq] at h
        obtain ⟨rfl, rfl⟩ := h
        simp only [RV] at h1
        refine ⟨[v'], m, rfl, RVs.one.2 ?_, h2⟩
        rw [h1.2]
        simp only [RV, DV]
        exact ⟨none, _, rfl, Nat.zero_le _, .inl (by trivial)⟩
      · cases h
    · cases h
  | .ptr t, v :: cs, x, r, vs, h, hv => by
    obtain ⟨v', m, rfl, h1, h2⟩ := hv.cons
    simp only [Ty.un] at h
    split at h
    · rename_i t' xs
      split at h
      · rename_i ys hys
        simp only [Option.some.injEq, Prod.mk.injEq] at h
        obtain ⟨rfl, rfl⟩ := h
        obtain ⟨e, hy⟩ := Ty.q33 hys
        subst e
        subst hy
        exact ⟨[v'], m, rfl, RVs.one.2 h1, h2⟩
      · cases h
    · simp only [Option.some.injEq, Prod.mk.injEq] at h
      obtain ⟨rfl, rfl⟩ := h
      simp only [RV] at h1
      refine ⟨[v'], m, rfl, RVs.one.2 ?_, h2⟩
      rw [h1.2]
      simp only [RV, DV]
    · cases h
  | .pair a b, v :: cs, x, r, vs, h, hv => by
    simp only [Ty.un] at h
    split at h
    · rename_i x1 r1 h1
      split at h
      · rename_i y1 r2 h2
        simp only [Option.some.injEq, Prod.mk.injEq] at h
        obtain ⟨rfl, rfl⟩ := h
        obtain ⟨l1, m1, rfl, k1, k2⟩ := Ty.z4v h1 hv
        obtain ⟨l2, m2, rfl, k3, k4⟩ := Ty.z4v h2 k2
        exact ⟨l1 ++ l2, m2, by simp, k1.append k3, k4⟩
      · cases h
    · cases h
theorem Ty.z09 {σ : Num} {Z : Zone} {w : World} {fs : List Nat} {t : Ty} {cs : List V} {x : t.I} {vs : List Value} (h : t.un1 fs cs = some x) (hv : RVs M σ Z w cs vs) : RVs M σ Z w (t.cells fs x) vs := by
  unfold Ty.un1 at h
  split at h
  · rename_i y hy
    cases h
    obtain ⟨l, m, rfl, h1, h2⟩ := Ty.z4v hy hv
    simp only [RVs] at h2
    subst h2
    simpa using h1
  · cases h
theorem Ty.q7k {σ : Num} {Z : Zone} {w : World} {fs : List Nat} {t : Ty} : ∀ {n : Nat} {cs : List V} {xs : List t.I} {vs : List Value}, t.z01 fs n cs = some xs → RVs M σ Z w cs vs →
    ∃ rows : List (List Value), vs = rows.flatten ∧ All2 (fun x row => RVs M σ Z w (t.cells fs x) row) xs rows
  | 0, _, _, _, h, _ => by simp [Ty.z01] at h
  | n + 1, [], xs, vs, h, hv => by
    simp [Ty.z01] at h
    subst h
    simp only [RVs] at hv
    exact ⟨[], by simp [hv], trivial⟩
  | n + 1, v :: cs, xs, vs, h, hv => by
    simp only [Ty.z01] at h
    split at h
    · rename_i x r hx
      split at h
      · rename_i ys hys
        cases h
        obtain ⟨l, m, rfl, h1, h2⟩ := Ty.z4v hx hv
        obtain ⟨rows, rfl, h3⟩ := Ty.q7k hys h2
        exact ⟨l :: rows, by simp, h1, h3⟩
      · cases h
    · cases h
theorem part_leaf {Z : Zone} {w : World} {t : Ty} {x : t.I} {off n m : Nat} {t' : Ty} {p : t'.I} {row : List Value} (h : (bif Nat.beq off 0 && Nat.beq n m then some (⟨t, x⟩ : (t' : Ty) × t'.I) else none) = some ⟨t', p⟩) (hd : DV M Z w t x row) :
    ∃ pre mid post, row = pre ++ (mid ++ post) ∧ pre.length = off ∧ DV M Z w t' p mid := by
  cases h0 : (Nat.beq off 0 && Nat.beq n m) with
  | false => rw [h0] at h; cases h
  | true =>
    rw [h0] at h
    simp only [cond_true, Option.some.injEq, Sigma.mk.injEq] at h
    obtain ⟨rfl, h⟩ := h
    cases h
    simp only [Bool.and_eq_true] at h0
    have := Nat.eq_of_beq_eq_true h0.1
    exact ⟨[], row, [], by simp, by simp [this], hd⟩
theorem Ty.part_spec {Z : Zone} {w : World} : ∀ {t : Ty} {x : t.I} {off n : Nat} {t' : Ty} {p : t'.I} {row : List Value}, t.part x off n = some ⟨t', p⟩ → DV M Z w t x row →
    ∃ pre mid post, row = pre ++ (mid ++ post) ∧ pre.length = off ∧ DV M Z w t' p mid := by
  intro t
  induction t with
  | pair a b iha ihb =>
    intro x off n t' p row h hd
    simp only [Ty.part] at h
    cases h0 : (Nat.beq off 0 && Nat.beq n (a.size + b.size)) with
    | true =>
      simp only [h0, cond_true, Option.some.injEq, Sigma.mk.injEq] at h
      obtain ⟨rfl, h⟩ := h
      cases h
      simp only [Bool.and_eq_true] at h0
      have := Nat.eq_of_beq_eq_true h0.1
      exact ⟨[], row, [], by simp, by simp [this], hd⟩
    | false =>
      simp only [h0, cond_false] at h
      simp only [DV] at hd
      obtain ⟨l, m, rfl, h1, h2⟩ := hd
      cases ha : Nat.ble (off + n) a.size with
      | true =>
        simp only [ha, cond_true] at h
        obtain ⟨pre, mid, post, e, h3, h4⟩ := iha h h1
        exact ⟨pre, mid, post ++ m, by simp [e], h3, h4⟩
      | false =>
        simp only [ha, cond_false] at h
        cases hb : Nat.ble a.size off with
        | false => simp [hb] at h
        | true =>
          simp only [hb, cond_true] at h
          obtain ⟨pre, mid, post, e, h3, h4⟩ := ihb h h2
          have := Nat.le_of_ble_eq_true hb
          exact ⟨l ++ pre, mid, post, by simp [e], by rw [List.length_append, h1.length, h3]; omega, h4⟩
  | _ => intro x off n t' p row h hd; exact part_leaf h hd
end Go.Proofs.YtdjkdmjdcdljmaaGreatDoorY
namespace Go.Proofs.YtdjkdmjdcdljmaaGreatDoorY
open Go.RowKit
def BlkR (w : World) (st : Status) (e : TypeId) (row n : Nat) (cells : List Value) : Prop :=
  ∃ s, st = .alive s ∧ s.row = row ∧ (row ≠ 0 → cells.length = n * row) ∧
    ((s.real = none ∧ n = 0 ∧ row ≠ 0 ∧ ∃ a, s.whole = .slice a 0 0) ∨
     ∃ r rest, s.real = some r ∧ w.heap[r]? = some (.cells (cells ++ rest).toArray e (0, 0)) ∧ (row ≠ 0 → s.cap ≤ maxLen ∧ (cells ++ rest).length = s.cap * row ∧ s.whole = .slice (some ⟨r, 0, none⟩) n s.cap))
section
variable (M : Cfg)
def q3f (σ : Num) (Z : Zone) (w : World) (t : Ty) (fs : List Nat) (xs : List t.I) (rows : List (List Value)) : Prop := All2 (fun x row => RVs M σ Z w (t.cells fs x) row) xs rows
def HER (σ : Num) (Z : Zone) (w : World) (F : Nat) : HE → Prop
  | .dead => ∀ k, σ F k = .dead
  | .cells e row cs => (∀ k, σ F (k + 1) = .dead) ∧ cs.all V.one = true ∧ ∃ vs n, RVs M σ Z w cs vs ∧ BlkR w (σ F 0) e row n vs
  | .list e t fs xs => (∀ k, σ F (k + 1) = .dead) ∧ ∃ rows, q3f M σ Z w t fs xs rows ∧ BlkR w (σ F 0) e t.size xs.length rows.flatten
  | .many e t xs => (∀ (k : Nat) ys, xs[k]? = some (some ys) → ∃ rows, q3f M σ Z w t [] ys rows ∧ BlkR w (σ F k) e t.size ys.length rows.flatten) ∧ ∀ k, xs.length ≤ k → σ F k = .fresh
end
def Glob (Z : Zone) (w : World) : Prop := ∀ v, globV = some v → Z 0 ∧ w.cell? ⟨0, 0, none⟩ = some v
theorem Glob.keep {Z Z' : Zone} {w w' : World} (h : Glob Z w) (hz : ∀ r, Z r → Z' r) (hb : ∀ r, Z r → w'.heap[r]? = w.heap[r]?) : Glob Z' w' := fun v hv => by
  obtain ⟨h1, h2⟩ := h v hv
  refine ⟨hz 0 h1, ?_⟩
  unfold World.cell? at h2 ⊢
  have := hb 0 h1
  simp only [] at this ⊢
  rw [this]
  exact h2
structure Inv (σ : Num) (Z : Zone) (w : World) : Prop where
  inj : ∀ F k F' k' r, σ.real F k r → σ.real F' k' r → F = F' ∧ k = k'
  lt : ∀ r, σ.own r → r < w.heap.size
  zlt : ∀ r, Z r → r < w.heap.size
  off : ∀ r, σ.own r → ¬ Z r
  glob : Glob Z w
def ownT (σ : Num) (Fs : List Nat) (r : Nat) : Prop := ∃ F ∈ Fs, ∃ k, σ.real F k r
theorem ownT.own {σ : Num} {Fs : List Nat} {r : Nat} (h : ownT σ Fs r) : σ.own r := by obtain ⟨F, _, k, h⟩ := h; exact ⟨F, k, h⟩
def fams (chg : List (Nat × HE)) : List Nat := chg.map (·.1)
variable {M : Cfg}
structure q4a (M : Cfg) (σ : Num) (Z : Zone) (w : World) (σ' : Num) (Z' : Zone) (w' : World) (chg : List (Nat × HE)) : Prop where
  os : w'.os = w.os
  tape : w'.tape = w.tape
  output : w'.output = w.output
  size : w.heap.size ≤ w'.heap.size
  st : ∀ F k, StLe (σ F k) (σ' F k)
  other : ∀ F, F ∉ fams chg → ∀ k, σ' F k = σ F k
  zone : ∀ r, Z r → Z' r
  znew : ∀ r, Z' r → Z r ∨ ownT σ (fams chg) r ∨ w.heap.size ≤ r
  block : ∀ r, r < w.heap.size → ¬ ownT σ (fams chg) r → w'.heap[r]? = w.heap[r]?
  new : ∀ F k r, F ∈ fams chg → σ'.real F k r → ownT σ (fams chg) r ∨ w.heap.size ≤ r
  inv : Inv σ' Z' w'
  her : ∀ F he, (F, he) ∈ chg → HER M σ' Z' w' F he
theorem q4a.le {σ σ' : Num} {Z Z' : Zone} {w w' : World} {chg : List (Nat × HE)} (hi : Inv σ Z w) (h : q4a M σ Z w σ' Z' w' chg) : Le σ Z w σ' Z' w' :=
  ⟨h.st, h.zone, fun r hr => h.block r (hi.zlt r hr) fun ho => hi.off r ho.own hr⟩
theorem q4a.z7f {σ : Num} {Z : Zone} {w w' : World} (hi : Inv σ Z w) (h : Below w.heap.size w w') : q4a M σ Z w σ Z w' [] :=
  ⟨h.os, h.tape, h.output, h.size, fun _ _ => .same _, fun _ _ _ => rfl, fun _ h => h, fun _ h => .inl h, fun r hr _ => h.block r hr, fun F k r hF => by simp [fams] at hF,
    ⟨hi.inj, fun r hr => Nat.lt_of_lt_of_le (hi.lt r hr) h.size, fun r hr => Nat.lt_of_lt_of_le (hi.zlt r hr) h.size, hi.off, hi.glob.keep (fun _ h => h) fun r hr => h.block r (hi.zlt r hr)⟩, fun F he hF => by simp at hF⟩
theorem q4a.still {σ : Num} {Z : Zone} {w : World} (hi : Inv σ Z w) : q4a M σ Z w σ Z w [] := q4a.z7f hi (Below.refl _ _)
theorem BlkR.keep {w w' : World} {st : Status} {e : TypeId} {row n : Nat} {cs : List Value} (h : BlkR w st e row n cs) (hk : ∀ s r, st = .alive s → s.real = some r → w'.heap[r]? = w.heap[r]?) : BlkR w' st e row n cs := by
  obtain ⟨s, h1, h2, h3, h4⟩ := h
  refine ⟨s, h1, h2, h3, h4.imp id ?_⟩
  rintro ⟨r, rest, h5, h6, h7⟩
  exact ⟨r, rest, h5, (hk s r h1 h5).trans h6, h7⟩
theorem q3f.mono {σ σ' : Num} {Z Z' : Zone} {w w' : World} (h : Le σ Z w σ' Z' w') {t : Ty} {fs : List Nat} {xs : List t.I} {rows : List (List Value)} (k : q3f M σ Z w t fs xs rows) : q3f M σ' Z' w' t fs xs rows :=
  All2.mono (fun _ _ _ => RVs.mono h) k
theorem HER.keep {σ σ' : Num} {Z Z' : Zone} {w w' : World} (h : Le σ Z w σ' Z' w') {F : Nat} {he : HE} (hs : ∀ k, σ' F k = σ F k) (hk : ∀ k r, σ.real F k r → w'.heap[r]? = w.heap[r]?) (k : HER M σ Z w F he) : HER M σ' Z' w' F he := by
  cases he with
  | dead => intro i; rw [hs]; exact k i
  | cells e row cs =>
    obtain ⟨h1, h2, vs, n, h3, h4⟩ := k
    refine ⟨fun i => by rw [hs]; exact h1 i, h2, vs, n, h3.mono h, ?_⟩
    rw [hs]
    exact h4.keep fun s r h5 h6 => hk 0 r ⟨s, h5, h6⟩
  | list e t fs xs =>
    obtain ⟨h1, rows, h3, h4⟩ := k
    refine ⟨fun i => by rw [hs]; exact h1 i, rows, h3.mono h, ?_⟩
    rw [hs]
    exact h4.keep fun s r h5 h6 => hk 0 r ⟨s, h5, h6⟩
  | many e t xs =>
    obtain ⟨h1, h2⟩ := k
    refine ⟨fun i ys hy => ?_, fun i hi => by rw [hs]; exact h2 i hi⟩
    obtain ⟨rows, h3, h4⟩ := h1 i ys hy
    refine ⟨rows, h3.mono h, ?_⟩
    rw [hs]
    exact h4.keep fun s r h5 h6 => hk i r ⟨s, h5, h6⟩
theorem q4a.keep {σ σ' : Num} {Z Z' : Zone} {w w' : World} {chg : List (Nat × HE)} (hi : Inv σ Z w) (h : q4a M σ Z w σ' Z' w' chg) {F : Nat} {he : HE} (hF : F ∉ fams chg) (k : HER M σ Z w F he) : HER M σ' Z' w' F he := by
  refine HER.keep (h.le hi) (h.other F hF) (fun i r hr => h.block r (hi.lt r ⟨F, i, hr⟩) ?_) k
  rintro ⟨G, hG, j, hj⟩
  obtain ⟨rfl, _⟩ := hi.inj _ _ _ _ r hr hj
  exact hF hG
def Num.upd (σ : Num) (F : Nat) (f : Nat → Status) : Num := fun G k => if G = F then f k else σ G k
theorem Num.q3c (σ : Num) (F : Nat) (f : Nat → Status) (k : Nat) : σ.upd F f F k = f k := if_pos rfl
theorem Num.q7w {σ : Num} {F G : Nat} {f : Nat → Status} (h : G ≠ F) (k : Nat) : σ.upd F f G k = σ G k := if_neg h
def one (s : Slot) : Nat → Status
  | 0 => .alive s
  | _ + 1 => .dead
theorem setRow_size (w : World) (g : Nat) (cs : Array Value) : (w.setRow g cs).heap.size = w.heap.size := by simp [World.setRow]
theorem z80 {σ : Num} {Z : Zone} {w w' : World} {F : Nat} {he : HE} {o : Obj} {s : Slot} (hi : Inv σ Z w) (hf : ∀ k, σ F k = .fresh) (hh : w'.heap = w.heap.push o) (h1 : w'.os = w.os) (h2 : w'.tape = w.tape) (h3 : w'.output = w.output)
    (hs : s.real = some w.heap.size) (hr : HER M (σ.upd F (one s)) Z w' F he) : q4a M σ Z w (σ.upd F (one s)) Z w' [(F, he)] := by
  have hreal : ∀ G k r, (σ.upd F (one s)).real G k r → (G = F ∧ k = 0 ∧ r = w.heap.size) ∨ (G ≠ F ∧ σ.real G k r) := by
    intro G k r ⟨s', e1, e2⟩
    by_cases e : G = F
    · subst e
      rw [Num.q3c] at e1
      cases k with
      | zero => simp only [one, Status.alive.injEq] at e1; subst e1; rw [hs] at e2; cases e2; exact .inl ⟨rfl, rfl, rfl⟩
      | succ k => cases e1
    · rw [Num.q7w e] at e1; exact .inr ⟨e, s', e1, e2⟩
  have hsz : w'.heap.size = w.heap.size + 1 := by rw [hh]; simp
  have hnot : ∀ r, ¬ ownT σ [F] r := by
    rintro r ⟨G, hG, k, s', e1, _⟩
    simp at hG; subst hG
    rw [hf k] at e1; cases e1
  refine ⟨h1, h2, h3, by omega, fun G k => ?_, fun G hG k => Num.q7w (by simpa [fams] using hG) k, fun _ h => h, fun _ h => .inl h, fun r hr _ => ?_, fun G k r hG hr' => ?_, ⟨fun G k G' k' r a b => ?_, fun r ⟨G, k, hr'⟩ => ?_, fun r hz => by have := hi.zlt r hz; omega, fun r ⟨G, k, hr'⟩ hz => ?_, hi.glob.keep (fun _ h => h) fun r hz => by have := hi.zlt r hz; rw [hh, Array.getElem?_push, if_neg (by omega)]⟩, fun G he' hG => ?_⟩
  · by_cases e : G = F
    · subst e; rw [hf]; exact .born _
    · rw [Num.q7w e]; exact .same _
  · rw [hh, Array.getElem?_push, if_neg (by omega)]
  · rcases hreal G k r hr' with ⟨_, _, rfl⟩ | ⟨e, _⟩
    · exact .inr (Nat.le_refl _)
    · simp [fams] at hG; exact absurd hG e
  · rcases hreal G k r a with ⟨rfl, rfl, rfl⟩ | ⟨e, a'⟩ <;> rcases hreal G' k' _ b with ⟨rfl, rfl, e2⟩ | ⟨e', b'⟩
    · exact ⟨rfl, rfl⟩
    · exact absurd (hi.lt _ ⟨_, _, b'⟩) (Nat.lt_irrefl _)
    · subst e2; exact absurd (hi.lt _ ⟨_, _, a'⟩) (Nat.lt_irrefl _)
    · exact hi.inj _ _ _ _ r a' b'
  · rcases hreal G k r hr' with ⟨_, _, rfl⟩ | ⟨_, a⟩
    · omega
    · have := hi.lt r ⟨_, _, a⟩; omega
  · rcases hreal G k r hr' with ⟨_, _, rfl⟩ | ⟨_, a⟩
    · exact absurd (hi.zlt _ hz) (Nat.lt_irrefl _)
    · exact hi.off r ⟨_, _, a⟩ hz
  · simp at hG; obtain ⟨rfl, rfl⟩ := hG; exact hr
theorem z3u {σ : Num} {Z : Zone} {w w' : World} {F k r : Nat} {he : HE} (hi : Inv σ Z w) (hF : σ.real F k r) (hh : ∀ b, b ≠ r → w'.heap[b]? = w.heap[b]?) (hsz : w'.heap.size = w.heap.size) (h1 : w'.os = w.os) (h2 : w'.tape = w.tape) (h3 : w'.output = w.output)
    (hr : HER M σ Z w' F he) : q4a M σ Z w σ Z w' [(F, he)] := by
  have hown : ownT σ [F] r := ⟨F, by simp, k, hF⟩
  refine ⟨h1, h2, h3, by omega, fun _ _ => .same _, fun _ _ _ => rfl, fun _ h => h, fun _ h => .inl h, fun b hb hn => hh b fun e => hn (by subst e; exact hown), fun G j b hG hb => .inl ⟨G, hG, j, hb⟩,
    ⟨hi.inj, fun b hb => by rw [hsz]; exact hi.lt b hb, fun b hb => by rw [hsz]; exact hi.zlt b hb, hi.off, hi.glob.keep (fun _ h => h) fun b hb => hh b fun e => hi.off r ⟨F, k, hF⟩ (e ▸ hb)⟩, fun G he' hG => ?_⟩
  simp at hG; obtain ⟨rfl, rfl⟩ := hG; exact hr
theorem j2v {σ : Num} {Z : Zone} {w w' : World} {F k r : Nat} (hi : Inv σ Z w) (hF : σ.real F k r) (hh : ∀ b, b ≠ r → w'.heap[b]? = w.heap[b]?) : Le σ Z w σ Z w' :=
  ⟨fun _ _ => .same _, fun _ h => h, fun b hb => hh b fun e => hi.off r ⟨F, k, hF⟩ (e ▸ hb)⟩
theorem le_new {σ : Num} {Z : Zone} {w w' : World} {F : Nat} {o : Obj} {f : Nat → Status} (hi : Inv σ Z w) (hf : ∀ k, σ F k = .fresh) (hh : w'.heap = w.heap.push o) : Le σ Z w (σ.upd F f) Z w' := by
  refine ⟨fun G k => ?_, fun _ h => h, fun b hb => ?_⟩
  · by_cases e : G = F
    · subst e; rw [hf]; exact .born _
    · rw [Num.q7w e]; exact .same _
  · have := hi.zlt b hb
    rw [hh, Array.getElem?_push, if_neg (by omega)]
structure Fs where
  e : Nat → Option V
  h : Nat → Option HE
def St.fs (S : St) : Fs := ⟨look S.env, fun b => S.heap[b]?⟩
def Fs.ev (F : Fs) : Operand → Option V
  | .tmp t => F.e t
  | .const v => vlit v
  | .func f => some (.fn (.func f) [] [])
  | _ => none
theorem q2f (S : St) (x : Operand) : S.fs.ev x = S.ev x := by cases x <;> rfl
def Good (M : Cfg) (F : Fs) (o : Oper) (out : Out) : Prop :=
  ∀ (σ : Num) (Z : Zone) (a : Act) (w : World), Inv σ Z w →
    (∀ x ∈ o.op.operands, ∀ v, F.ev x = some v → RV M σ Z w v (a.eval x)) →
    (∀ G, G ∈ out.rds ∨ G ∈ fams out.chg → ∀ he, F.h G = some he → HER M σ Z w G he) → (∀ G ∈ fams out.chg, F.h G = none → ∀ k, σ G k = .fresh) →
    ∀ (K : Act → World → Prop) (Q : Exit → Act → World → Prop),
      (∀ v' w' σ' Z', RV M σ' Z' w' out.v v' → q4a M σ Z w σ' Z' w' out.chg → K (a.put o.dst v') w') → o.wp M.P a w K Q
theorem q3a {P : Program} {o : Oper} {a : Act} {w w' : World} {v : Value} {K : Act → World → Prop} {Q : Exit → Act → World → Prop}
    (h : (execOp a.eval o).run P w = .ok (.value v) w') (hk : K (a.put o.dst v) w') : o.wp P a w K Q := by
  unfold Oper.wp; rw [h]; exact hk
theorem j2p {P : Program} {o : Oper} {a : Act} {w w' : World} {K : Act → World → Prop} {Q : Exit → Act → World → Prop}
    (h : (execOp a.eval o).run P w = .ok .skip w') (hk : K (a.put o.dst undef) w') : o.wp P a w K Q := by
  unfold Oper.wp; rw [h]; exact hk
theorem q1e {F : Fs} {o : Oper} {v : V} {rds : List Nat}
    (h : ∀ (σ : Num) (Z : Zone) (a : Act) (w : World), Inv σ Z w → (∀ x ∈ o.op.operands, ∀ v, F.ev x = some v → RV M σ Z w v (a.eval x)) → (∀ G ∈ rds, ∀ he, F.h G = some he → HER M σ Z w G he) →
      ∃ v', RV M σ Z w v v' ∧ (execOp a.eval o).run M.P w = .ok (.value v') w) : Good M F o { v := v, rds := rds } := by
  intro σ Z a w hi hv ht _ K Q hK
  obtain ⟨v', h1, h2⟩ := h σ Z a w hi hv fun G hG => ht G (.inl hG)
  exact q3a h2 (hK v' w σ Z h1 (q4a.still hi))
theorem z72 {β : Type} {P : Program} : ∀ (s : Sem β) {a : β} (w : World), calm P s = some a → s.run P w = .ok a w
  | .pure _, _, _, h => by simp [calm] at h; subst h; rfl
  | .program k, _, w, h => by simp only [Sem.run]; exact z72 (k P) w h
  | .mark _ k, _, w, h => by simp only [Sem.run]; exact z72 k w h
  | .load .., _, _, h | .store .., _, _, h | .new .., _, _, h | .shape .., _, _, h | .freeze .., _, _, h | .frozen .., _, _, h
  | .getObj .., _, _, h | .setObj .., _, _, h | .choose .., _, _, h | .sys .., _, _, h | .halt .., _, _, h => by simp [calm] at h
theorem z5z {S : St} {σ : Num} {Z : Zone} {w : World} : ∀ {l : List Operand}, S.flats l = some () →
    ∀ (a : Act), (∀ x ∈ l, ∀ v, S.fs.ev x = some v → RV M σ Z w v (a.eval x)) → ∀ x ∈ l, S.fl x = a.eval x
  | [], _, _, _ => by simp
  | x :: l, h, a, hv => by
    simp only [St.flats] at h
    cases hx : S.ev x with
    | none => simp [hx] at h
    | some v =>
      simp only [hx] at h
      cases hf : v.j0h with
      | none => simp [hf] at h
      | some u =>
        simp only [hf] at h
        intro y hy
        rcases List.mem_cons.1 hy with rfl | hy
        · rw [(hv y (by simp) v (by rw [q2f, hx])).flat hf]
          simp only [St.fl, hx, hf]
        · exact z5z h a (fun z hz => hv z (by simp [hz])) y hy
variable {α : Type}
theorem q6z {S : St} {o : Oper} {k : Out → Option α} {r : α} (hs : ∀ cs b, o.op ≠ .select cs b) (h : z7w M S o k = some r) : ∃ out, k out = some r ∧ Good M S.fs o out := by
  unfold z7w at h
  split at h
  · cases h
  · rename_i ha
    split at h
    · rename_i v hc
      split at h
      · rename_i u hu
        refine ⟨_, h, q1e (rds := []) fun σ Z a w hi hv _ => ⟨v, RV.q97 hu, ?_⟩⟩
        have h2 := z5z ha a fun x hx => hv x (by simpa using hx)
        have e : execOp S.fl o = execOp a.eval o := execOp_congr o hs fun x hx => h2 x (by simpa using hx)
        rw [e] at hc
        exact z72 _ w hc
      · cases h
    · cases h
theorem q8j {P : Program} {t : TypeId} {b : Bool} (h : j24 P t = some b) (w : World) : (isAgg t).run P w = .ok b w := by
  unfold j24 at h
  cases hu : P.underlying t with
  | none => simp [hu] at h
  | some d =>
    simp only [hu] at h
    unfold isAgg
    rw [Sem.run_bind, run_underlying hu]
    cases d <;> simp at h <;> subst h <;> rfl
theorem z41 {P : Program} {t : TypeId} {i : TypeInfo} {v : Value} (h : P.info? t = some i) (hz : i.zero = some v) (w : World) : (zeroValue t).run P w = .ok v w := by
  simp [zeroValue, typeInfo, h, hz]
theorem q26 {P : Program} {t : TypeId} {i : TypeInfo} (h : P.info? t = some i) (w : World) : (sizeOf t).run P w = .ok i.size w := by
  simp [sizeOf, typeInfo, h]
theorem q6p (b o j : Nat) : (⟨b, o, none⟩ : Addr).add j = ⟨b, o + j, none⟩ := by unfold Addr.add; split <;> simp_all
theorem q4y {t : TypeId} {cs : List V} (h : zeroOf M t = some cs) : ∃ i z, M.P.info? t = some i ∧ i.zero = some z ∧ cs.all V.one = true ∧ ∀ (σ : Num) (Z : Zone) (w : World), RVs M σ Z w cs z.cells.toList := by
  unfold zeroOf at h
  split at h
  · rename_i i hi
    split at h
    · rename_i z hz
      split at h
      · rename_i v hv
        cases h
        refine ⟨i, z, hi, hz, ?_, fun σ Z w => RV.cells ?_ (RV.q97 hv)⟩
        · have := RV.q97 (M := M) (σ := fun _ _ => .dead) (Z := fun _ => False) (w := default) hv
          unfold V.q97 at hv
          split at hv
          · cases hl : (_ : Array Value).toList.all z0f with
            | false => rw [hl] at hv; cases hv
            | true => rw [hl] at hv; simp at hv; subst hv; exact z57 _
          · cases hl : z0f z with
            | false => rw [hl] at hv; cases hv
            | true => rw [hl] at hv; simp at hv; subst hv; rfl
        · unfold V.q97 at hv
          split at hv
          · cases hl : (_ : Array Value).toList.all z0f with
            | false => rw [hl] at hv; cases hv
            | true => rw [hl] at hv; simp at hv; subst hv; rfl
          · cases hl : z0f z with
            | false => rw [hl] at hv; cases hv
            | true => rw [hl] at hv; simp at hv; subst hv; rfl
      · cases h
    · cases h
  · cases h
end Go.Proofs.YtdjkdmjdcdljmaaGreatDoorY
namespace Go.Proofs.YtdjkdmjdcdljmaaGreatDoorY
open Go.RowKit
variable {M : Cfg} {α : Type}
theorem q5n {H : List HE} {b : Bid} (h : q81 H b = true) : ∃ he, H[b.1]? = some he ∧ ∀ (σ : Num) (Z : Zone) (w : World), HER M σ Z w b.1 he → ∃ s, σ b.1 b.2 = .alive s ∧ s.row = z2y H b.1 := by
  obtain ⟨F, k⟩ := b
  unfold q81 at h
  split at h
  · rename_i e row cs hh
    obtain rfl := Nat.eq_of_beq_eq_true h
    exact ⟨_, hh, fun σ Z w ⟨_, _, _, _, _, s, hs, hr, _⟩ => ⟨s, hs, by simp only [z2y, hh, hr]⟩⟩
  · rename_i e t fs xs hh
    obtain rfl := Nat.eq_of_beq_eq_true h
    exact ⟨_, hh, fun σ Z w ⟨_, _, _, s, hs, hr, _⟩ => ⟨s, hs, by simp only [z2y, hh, hr]⟩⟩
  · rename_i e t xs hh
    split at h
    · rename_i o hys
      split at h
      · rename_i ys
        refine ⟨_, hh, fun σ Z w ⟨h1, _⟩ => ?_⟩
        obtain ⟨_, _, s, hs, hr, _⟩ := h1 k ys hys
        exact ⟨s, hs, by simp only [z2y, hh, hr]⟩
      · cases h
    · cases h
  · cases h
def AtRow (M : Cfg) (σ : Num) (Z : Zone) (w : World) (b : Bid) (i : Nat) (cs : List V) : Prop :=
  ∃ s r pre vs post e, σ b.1 b.2 = .alive s ∧ s.real = some r ∧ w.heap[r]? = some (.cells (pre ++ (vs ++ post)).toArray e (0, 0)) ∧ pre.length = i * s.row ∧ RVs M σ Z w cs vs
theorem q07 {n : Nat} {rows : List (List Value)} (h : ∀ r ∈ rows, r.length = n) : ∀ {i : Nat}, i ≤ rows.length → (rows.take i).flatten.length = i * n := by
  induction rows with
  | nil => intro i hi; simp at hi; subst hi; simp
  | cons r rows ih =>
    intro i hi
    cases i with
    | zero => simp
    | succ i =>
      simp only [List.take_succ_cons, List.flatten_cons, List.length_append]
      rw [ih (fun x hx => h x (by simp [hx])) (by simpa using hi), h r (by simp), Nat.add_mul, Nat.one_mul, Nat.add_comm]
theorem q7j {rows : List (List Value)} {i : Nat} {row : List Value} (h : rows[i]? = some row) : rows.flatten = (rows.take i).flatten ++ (row ++ (rows.drop (i + 1)).flatten) := by
  have hi : i < rows.length := (List.getElem?_eq_some_iff.1 h).1
  have e : rows = rows.take i ++ (row :: rows.drop (i + 1)) := by
    have h2 : rows[i] = row := (List.getElem?_eq_some_iff.1 h).2
    rw [← h2, List.getElem_cons_drop, List.take_append_drop]
  conv => lhs; rw [e]
  simp
theorem q3f.len {σ : Num} {Z : Zone} {w : World} {t : Ty} {fs : List Nat} {xs : List t.I} {rows : List (List Value)} (h : q3f M σ Z w t fs xs rows) : ∀ r ∈ rows, r.length = t.size := by
  unfold q3f at h
  induction rows generalizing xs with
  | nil => simp
  | cons r rows ih =>
    cases xs with
    | nil => exact h.elim
    | cons x xs =>
      intro q hq
      rcases List.mem_cons.1 hq with rfl | hq
      · rw [← h.1.length, Ty.q40]
      · exact ih h.2 q hq
theorem q9n {σ : Num} {Z : Zone} {w : World} {t : Ty} {fs : List Nat} {xs : List t.I} {rows : List (List Value)} {F k e i : Nat} {x : t.I} (h : q3f M σ Z w t fs xs rows) (hb : BlkR w (σ F k) e t.size xs.length rows.flatten) (hx : xs[i]? = some x) :
    AtRow M σ Z w (F, k) i (t.cells fs x) := by
  obtain ⟨row, h1, h2⟩ := h.get hx
  obtain ⟨s, hs, hrow, _, hreal⟩ := hb
  have hpos := t.size_pos
  have hi : i < xs.length := (List.getElem?_eq_some_iff.1 hx).1
  rcases hreal with ⟨_, h0, _⟩ | ⟨r, rest, h3, h4, _⟩
  · omega
  · refine ⟨s, r, (rows.take i).flatten, row, (rows.drop (i + 1)).flatten ++ rest, e, hs, h3, ?_, ?_, h2⟩
    · rw [h4, q7j h1]; simp
    · rw [q07 h.len (by have := h.length; omega), hrow]
theorem j3m {H : List HE} {b : Bid} {i : Nat} {k : List V → Option α} {r : α} (h : rowAt H b i k = some r) : ∃ cs he, H[b.1]? = some he ∧ k cs = some r ∧ ∀ (σ : Num) (Z : Zone) (w : World), HER M σ Z w b.1 he → AtRow M σ Z w b i cs := by
  obtain ⟨F, kk⟩ := b
  unfold rowAt at h
  split at h
  · rename_i e row cs hh
    split at h
    · rename_i h0
      simp only at h0; subst h0
      cases hlt : Nat.blt (i * row) cs.length with
      | false => simp [hlt] at h
      | true =>
        simp only [hlt, cond_true] at h
        have hlt' : i * row < cs.length := Nat.le_of_ble_eq_true hlt
        refine ⟨_, _, hh, h, fun σ Z w ⟨_, _, vs, n, h1, s, hs, hrow, hn, hreal⟩ => ?_⟩
        have hl := h1.length
        rcases hreal with ⟨_, h0, hne, _⟩ | ⟨r, rest, h3, h4, _⟩
        · rw [h0] at hn; have := hn hne; omega
        · refine ⟨s, r, vs.take (i * row), vs.drop (i * row), rest, e, hs, h3, ?_, ?_, h1.drop _⟩
          · rw [h4, ← List.append_assoc, List.take_append_drop]
          · rw [List.length_take, hrow]; omega
    · cases h
  · rename_i e t fs xs hh
    split at h
    · rename_i h0
      simp only at h0; subst h0
      split at h
      · rename_i x hx
        exact ⟨_, _, hh, h, fun σ Z w ⟨_, rows, h1, h2⟩ => q9n h1 h2 hx⟩
      · cases h
    · cases h
  · rename_i e t xs hh
    split at h
    · rename_i o hys
      split at h
      · rename_i ys
        split at h
        · rename_i x hx
          refine ⟨_, _, hh, h, fun σ Z w ⟨h1, _⟩ => ?_⟩
          obtain ⟨rows, h2, h3⟩ := h1 kk ys hys
          exact q9n h2 h3 hx
        · cases h
      · cases h
    · cases h
  · cases h
theorem z9r {P : Program} {w : World} {t : TypeId} {i : TypeInfo} {b off : Nat} {cs : Array Value} {e : TypeId} {fr : Nat × Nat} (ha : j24 P t = some true) (hi : P.info? t = some i)
    (hg : w.heap[b]? = some (.cells cs e fr)) (hl : off + i.size ≤ cs.size) :
    (loadVar t ⟨b, off, none⟩).run P w = .ok (.agg ((cs.toList.drop off).take i.size).toArray) w := by
  have hn : ((cs.toList.drop off).take i.size).length = i.size := by simp; omega
  have := run_loadCells_list (P := P) w ⟨b, off, none⟩ ((cs.toList.drop off).take i.size) fun j v hj => by
    rw [q6p]
    have hj' : j < i.size := by
      have := (List.getElem?_eq_some_iff.1 hj).1
      omega
    simp only [World.cell?, hg]
    rw [List.getElem?_take_of_lt hj', List.getElem?_drop, Array.getElem?_toList] at hj
    simpa using hj
  rw [hn] at this
  simp [loadVar, q8j ha, q26 hi, this]
theorem z83 {P : Program} {w : World} {t : TypeId} {b off : Nat} {cs : Array Value} {e : TypeId} {fr : Nat × Nat} {v : Value} (ha : j24 P t = some false)
    (hg : w.heap[b]? = some (.cells cs e fr)) (hl : cs.toList[off]? = some v) :
    (loadVar t ⟨b, off, none⟩).run P w = .ok v w := by
  have : w.cell? ⟨b, off, none⟩ = some v := by simp only [World.cell?, hg]; simpa using hl
  simp [loadVar, q8j ha, this]
theorem z5r {cs vs : List V} {off n : Nat} (h : takeC cs off n = some vs) : off + n ≤ cs.length ∧ vs = (cs.drop off).take n := by
  unfold takeC at h
  cases hb : Nat.ble (off + n) cs.length with
  | false => simp [hb] at h
  | true => simp only [hb, cond_true, Option.some.injEq] at h; exact ⟨Nat.le_of_ble_eq_true hb, h.symm⟩
theorem z1x {σ : Num} {Z : Zone} {w : World} {t : TypeId} {cs : List V} {off : Nat} {v : V} {r : Nat} {pre vs post : List Value} {e : TypeId} {fr : Nat × Nat} (h : z47 M t cs off = some v) (hone : cs.all V.one = true)
    (hg : w.heap[r]? = some (.cells (pre ++ (vs ++ post)).toArray e fr)) (hv : RVs M σ Z w cs vs) : ∃ v', RV M σ Z w v v' ∧ (loadVar t ⟨r, pre.length + off, none⟩).run M.P w = .ok v' w := by
  have hl := hv.length
  unfold z47 at h
  split at h
  · rename_i i ha hi
    split at h
    · rename_i us hus
      cases h
      obtain ⟨h1, rfl⟩ := z5r hus
      refine ⟨_, ?_, z9r ha hi hg (by simp; omega)⟩
      simp only [RV]
      refine ⟨_, rfl, ?_, ?_⟩
      · rw [List.all_eq_true] at hone ⊢
        intro x hx
        exact hone x (List.mem_of_mem_drop (List.mem_of_mem_take hx))
      · have e1 : (((pre ++ (vs ++ post)).toArray.toList.drop (pre.length + off)).take i.size) = (vs.drop off).take i.size := by
          simp only []
          rw [List.drop_append, List.drop_append]
          rw [List.drop_eq_nil_of_le (show pre.length ≤ pre.length + off by omega)]
          simp only [Nat.add_sub_cancel_left, List.nil_append]
          rw [List.take_append_of_le_length (by rw [List.length_drop]; omega)]
        rw [e1]
        exact (hv.drop off).take i.size
    · cases h
  · rename_i ha
    obtain ⟨v', h1, h2⟩ := hv.get h
    have hlt := (List.getElem?_eq_some_iff.1 h1).1
    refine ⟨v', h2, z83 ha hg ?_⟩
    simp only []
    rw [List.getElem?_append_right (by omega), Nat.add_sub_cancel_left, List.getElem?_append_left hlt]
    exact h1
  · cases h
theorem q98 {σ : Num} {Z : Zone} {w : World} {b : Bid} {i off : Nat} {v' : Value} {s : Slot} (h : RV M σ Z w (.ptr b i off) v') (hs : σ b.1 b.2 = .alive s) : ∃ r, s.real = some r ∧ v' = .pointer (some ⟨r, i * s.row + off, none⟩) := by
  simp only [RV, hs] at h
  exact h
theorem z9p {H : List HE} {b : Bid} {i : Nat} {k : List V → Option α} {r : α} (h : rowAt H b i k = some r) : ∃ cs he, H[b.1]? = some he ∧ k cs = some r ∧ ∀ (σ : Num) (Z : Zone) (w : World), HER M σ Z w b.1 he → AtRow M σ Z w b i cs ∧ cs.all V.one = true := by
  obtain ⟨F, kk⟩ := b
  unfold rowAt at h
  split at h
  · rename_i e row cs hh
    have hh0 := hh
    have := j3m (M := M) (H := H) (b := (F, kk)) (i := i) (k := k) (r := r) (by unfold rowAt; rw [hh]; exact h)
    obtain ⟨cs', he, h1, h2, h3⟩ := this
    simp only [hh] at h1
    cases h1
    split at h
    · cases hlt : Nat.blt (i * row) cs.length with
      | false => simp [hlt] at h
      | true =>
        simp only [hlt, cond_true] at h
        refine ⟨cs.drop (i * row), _, hh, h, fun σ Z w hr => ⟨?_, ?_⟩⟩
        · rename_i h0
          simp only at h0; subst h0
          have hlt' : i * row < cs.length := Nat.le_of_ble_eq_true hlt
          obtain ⟨_, _, vs, n, h1, s, hs, hrow, hn, hreal⟩ := hr
          have hl := h1.length
          rcases hreal with ⟨_, h0, hne, _⟩ | ⟨r, rest, h3, h4, _⟩
          · rw [h0] at hn; have := hn hne; omega
          · refine ⟨s, r, vs.take (i * row), vs.drop (i * row), rest, e, hs, h3, ?_, ?_, h1.drop _⟩
            · rw [h4, ← List.append_assoc, List.take_append_drop]
            · rw [List.length_take, hrow]; omega
        · have ho := hr.2.1
          rw [List.all_eq_true] at ho ⊢
          exact fun x hx => ho x (List.mem_of_mem_drop hx)
    · cases h
  · rename_i e t fs xs hh
    split at h
    · rename_i h0
      simp only at h0; subst h0
      split at h
      · rename_i x hx
        exact ⟨_, _, hh, h, fun σ Z w ⟨_, rows, h1, h2⟩ => ⟨q9n h1 h2 hx, Ty.q4z _ _ _⟩⟩
      · cases h
    · cases h
  · rename_i e t xs hh
    split at h
    · rename_i o hys
      split at h
      · rename_i ys
        split at h
        · rename_i x hx
          refine ⟨_, _, hh, h, fun σ Z w ⟨h1, _⟩ => ⟨?_, Ty.q4z _ _ _⟩⟩
          obtain ⟨rows, h2, h3⟩ := h1 kk ys hys
          exact q9n h2 h3 hx
        · cases h
      · cases h
    · cases h
  · cases h
theorem j01 {S : St} {o : Oper} {t : TypeId} {x : Operand} {u : V} {k : Out → Option α} {r : α} (ho : o.op = .load t x) (hx : S.ev x = some u) (h : opLoad M S t u k = some r) :
    ∃ out, k out = some r ∧ Good M S.fs o out := by
  unfold opLoad at h
  split at h
  · rename_i b i off
    obtain ⟨cs, he, h1, h2, h3⟩ := z9p (M := M) h
    split at h2
    · rename_i v hv
      refine ⟨_, h2, q1e fun σ Z a w hi hop ht => ?_⟩
      obtain ⟨⟨s, rr, pre, vs, post, e, g1, g2, g3, g4, g5⟩, g6⟩ := h3 σ Z w (ht b.1 (by simp) he h1)
      obtain ⟨r', k1, k2⟩ := q98 (hop x (by simp [ho, Op.operands]) _ (by rw [q2f, hx])) g1
      rw [g2] at k1
      cases k1
      obtain ⟨v', q1, q2⟩ := z1x hv g6 g3 g5
      refine ⟨v', q1, ?_⟩
      rw [g4] at q2
      simp [execOp, ho, Instr.loadAt, k2, Instr.sureAddr, q2]
    · cases h2
  · rename_i ty y
    split at h
    · rename_i y
      split at h
      · rename_i v hv
        refine ⟨_, h, q1e (rds := []) fun σ Z a w hi hop _ => ?_⟩
        have hp := hop x (by simp [ho, Op.operands]) _ (by rw [q2f, hx])
        simp only [RV, DV] at hp
        obtain ⟨b, off, cs, el, fr, pre, row, post, k1, k2, k3, k4, k5, k6⟩ := hp
        simp at k1
        have hcs : cs = (pre ++ (row ++ post)).toArray := by rw [← k4]
        rw [hcs] at k3
        obtain ⟨v', q1, q2⟩ := z1x (σ := σ) hv (Ty.q4z _ _ _) k3 (DV.rvs [] k6)
        refine ⟨v', q1, ?_⟩
        rw [Nat.add_zero, k5] at q2
        simp [execOp, ho, Instr.loadAt, k1, Instr.sureAddr, q2]
      · cases h
    · cases h
  · cases h
theorem z4j {cs us vs : List V} {off : Nat} (h : putC cs off vs = some us) : off + vs.length ≤ cs.length ∧ us = cs.take off ++ (vs ++ cs.drop (off + vs.length)) := by
  unfold putC at h
  cases hb : Nat.ble (off + vs.length) cs.length with
  | false => simp [hb] at h
  | true => simp only [hb, cond_true, Option.some.injEq] at h; exact ⟨Nat.le_of_ble_eq_true hb, h.symm⟩
def PutRow (M : Cfg) (σ : Num) (Z : Zone) (w : World) (b : Bid) (i off n : Nat) (vs : List V) (he : HE) : Prop :=
  ∃ s r pre mid post e, σ b.1 b.2 = .alive s ∧ s.real = some r ∧ w.heap[r]? = some (.cells (pre ++ (mid ++ post)).toArray e (0, 0)) ∧ pre.length = i * s.row + off ∧ mid.length = n ∧
    ∀ us w', RVs M σ Z w vs us → w'.heap[r]? = some (.cells (pre ++ (us ++ post)).toArray e (0, 0)) → (∀ c, c ≠ r → w'.heap[c]? = w.heap[c]?) → HER M σ Z w' b.1 he
theorem z0h {rows : List (List Value)} {i : Nat} {row : List Value} (hi : i < rows.length) : (rows.set i row).flatten = (rows.take i).flatten ++ (row ++ (rows.drop (i + 1)).flatten) := by
  have h : (rows.set i row)[i]? = some row := by simp [hi]
  rw [q7j h]
  simp [List.take_set_of_le, List.drop_set_of_lt]
theorem All2.set {β γ : Type} {R : β → γ → Prop} : ∀ {l : List β} {m : List γ} {i : Nat} {a : β} {b : γ}, All2 R l m → R a b → All2 R (l.set i a) (m.set i b)
  | [], [], _, _, _, _, _ => trivial
  | _ :: _, _ :: _, 0, _, _, ⟨_, h2⟩, h => ⟨h, h2⟩
  | _ :: _, _ :: _, _ + 1, _, _, ⟨h1, h2⟩, h => ⟨h1, All2.set h2 h⟩
  | [], _ :: _, _, _, _, k, _ => k.elim
  | _ :: _, [], _, _, _, k, _ => k.elim
theorem listPut {σ : Num} {Z : Zone} {w : World} {t : Ty} {fs : List Nat} {xs : List t.I} {rows : List (List Value)} {F k e i off : Nat} {x y : t.I} {vs cs' : List V} (hinv : Inv σ Z w) (h : q3f M σ Z w t fs xs rows) (hb : BlkR w (σ F k) e t.size xs.length rows.flatten) (hx : xs[i]? = some x)
    (hp : putC (t.cells fs x) off vs = some cs') (hy : t.un1 fs cs' = some y) :
    ∃ s r pre mid post, σ F k = .alive s ∧ s.real = some r ∧ w.heap[r]? = some (.cells (pre ++ (mid ++ post)).toArray e (0, 0)) ∧ pre.length = i * s.row + off ∧ mid.length = vs.length ∧
      ∀ us w', RVs M σ Z w vs us → w'.heap[r]? = some (.cells (pre ++ (us ++ post)).toArray e (0, 0)) → (∀ c, c ≠ r → w'.heap[c]? = w.heap[c]?) →
        ∃ rows', q3f M σ Z w' t fs (xs.set i y) rows' ∧ BlkR w' (σ F k) e t.size (xs.set i y).length rows'.flatten := by
  obtain ⟨row, h1, h2⟩ := h.get hx
  obtain ⟨s, hs, hrow, hlen, hreal⟩ := hb
  have hpos := t.size_pos
  have hi : i < xs.length := (List.getElem?_eq_some_iff.1 hx).1
  have hrl := h.length
  obtain ⟨p1, rfl⟩ := z4j hp
  have hcl : row.length = (t.cells fs x).length := h2.length.symm
  rcases hreal with ⟨_, h0, _⟩ | ⟨r, rest, h3, h4, h5⟩
  · omega
  · have hro : σ.real F k r := ⟨s, hs, h3⟩
    have hpre : (rows.take i).flatten.length = i * t.size := q07 h.len (by omega)
    refine ⟨s, r, (rows.take i).flatten ++ row.take off, (row.drop off).take vs.length, row.drop (off + vs.length) ++ ((rows.drop (i + 1)).flatten ++ rest), hs, h3, ?_, ?_, ?_, fun us w' hus hw' hkeep => ?_⟩
    · rw [h4, q7j h1]
      have : row = row.take off ++ ((row.drop off).take vs.length ++ row.drop (off + vs.length)) := by
        rw [← List.drop_drop, List.take_append_drop, List.take_append_drop]
      conv => lhs; rw [this]
      simp
    · rw [List.length_append, hpre, List.length_take, hrow]; omega
    · rw [List.length_take, List.length_drop]; omega
    · have hle : Le σ Z w σ Z w' := j2v hinv hro hkeep
      have hnew : RVs M σ Z w' (t.cells fs y) (row.take off ++ (us ++ row.drop (off + vs.length))) :=
        Ty.z09 hy (((h2.mono hle).take off).append ((hus.mono hle).append ((h2.mono hle).drop _)))
      refine ⟨rows.set i (row.take off ++ (us ++ row.drop (off + vs.length))), All2.set (h.mono hle) hnew, s, hs, hrow, fun _ => ?_, .inr ⟨r, rest, h3, ?_, fun hne => ?_⟩⟩
      · rw [z0h (by omega), List.length_append, List.length_append, hpre, hnew.length.symm, Ty.q40]
        have e1 : (rows.drop (i + 1)).flatten.length = (xs.length - (i + 1)) * t.size := by
          have := q07 (rows := rows.drop (i + 1)) (fun q hq => h.len q (List.mem_of_mem_drop hq)) (i := (rows.drop (i + 1)).length) (Nat.le_refl _)
          rw [List.take_length, List.length_drop, ← hrl] at this
          exact this
        rw [e1, List.length_set, ← Nat.add_assoc, ← Nat.succ_mul, ← Nat.add_mul]
        congr 1; omega
      · rw [hw', z0h (by omega)]; simp
      · obtain ⟨q1, q2, q3⟩ := h5 hne
        refine ⟨q1, ?_, by rw [List.length_set]; exact q3⟩
        rw [← q2, z0h (by omega), q7j h1]
        have := hus.length
        simp; omega
theorem z3m {H : List HE} {b : Bid} {i off : Nat} {vs : List V} {k : HE → Option α} {r : α} (h : z5f H b i off vs k = some r) (hone : vs.all V.one = true) : ∃ he he', H[b.1]? = some he ∧ k he' = some r ∧
    ∀ (σ : Num) (Z : Zone) (w : World), Inv σ Z w → HER M σ Z w b.1 he → PutRow M σ Z w b i off vs.length vs he' := by
  obtain ⟨F, kk⟩ := b
  unfold z5f at h
  split at h
  · rename_i e row cs hh
    split at h
    · rename_i h0
      simp only at h0; subst h0
      split at h
      · rename_i cs' hcs
        cases hlt : Nat.blt 0 cs.length with
        | false => simp [hlt] at h
        | true =>
        simp only [hlt, cond_true] at h
        have hlt' : 0 < cs.length := Nat.le_of_ble_eq_true hlt
        obtain ⟨p1, rfl⟩ := z4j hcs
        refine ⟨_, _, hh, h, fun σ Z w hinv ⟨hd, hall, us0, n, h1, s, hs, hrow, hn, hreal⟩ => ?_⟩
        have hl := h1.length
        rcases hreal with ⟨_, h0, hne, _⟩ | ⟨r, rest, h3, h4, h5⟩
        · rw [h0] at hn; have := hn hne; omega
        · have hro : σ.real F 0 r := ⟨s, hs, h3⟩
          refine ⟨s, r, us0.take (i * row + off), (us0.drop (i * row + off)).take vs.length, us0.drop (i * row + off + vs.length) ++ rest, e, hs, h3, ?_, ?_, ?_, fun us w' hus hw' hkeep => ?_⟩
          · rw [h4]
            have e1 : us0.drop (i * row + off + vs.length) = (us0.drop (i * row + off)).drop vs.length := by rw [List.drop_drop]
            have : us0 = us0.take (i * row + off) ++ ((us0.drop (i * row + off)).take vs.length ++ us0.drop (i * row + off + vs.length)) := by
              rw [e1, List.take_append_drop, List.take_append_drop]
            conv => lhs; rw [this]
            simp
          · rw [List.length_take, hrow]; omega
          · rw [List.length_take, List.length_drop]; omega
          · have hle : Le σ Z w σ Z w' := j2v hinv hro hkeep
            have hul := hus.length
            refine ⟨hd, ?_, us0.take (i * row + off) ++ (us ++ us0.drop (i * row + off + vs.length)), n, ((h1.mono hle).take _).append ((hus.mono hle).append ((h1.mono hle).drop _)), s, hs, hrow, fun hne => ?_, .inr ⟨r, rest, h3, ?_, fun hne => ?_⟩⟩
            · rw [List.all_eq_true] at hall hone ⊢
              intro x hx
              rcases List.mem_append.1 hx with hx | hx
              · exact hall x (List.mem_of_mem_take hx)
              · rcases List.mem_append.1 hx with hx | hx
                · exact hone x hx
                · exact hall x (List.mem_of_mem_drop hx)
            · rw [← hn hne]; simp; omega
            · rw [hw']; simp
            · obtain ⟨q1, q2, q3⟩ := h5 hne
              refine ⟨q1, ?_, q3⟩
              rw [← q2]; simp; omega
      · cases h
    · cases h
  · rename_i e t fs xs hh
    split at h
    · rename_i h0
      simp only at h0; subst h0
      split at h
      · rename_i x hx
        split at h
        · rename_i cs' hcs
          split at h
          · rename_i y hy
            refine ⟨_, _, hh, h, fun σ Z w hinv ⟨hd, rows, h1, h2⟩ => ?_⟩
            obtain ⟨s, r, pre, mid, post, g1, g2, g3, g4, g5, g6⟩ := listPut hinv h1 h2 hx hcs hy
            exact ⟨s, r, pre, mid, post, e, g1, g2, g3, g4, g5, fun us w' a b c => ⟨hd, g6 us w' a b c⟩⟩
          · cases h
        · cases h
      · cases h
    · cases h
  · rename_i e t xs hh
    split at h
    · rename_i o hys
      split at h
      · rename_i ys
        split at h
        · rename_i x hx
          split at h
          · rename_i cs' hcs
            split at h
            · rename_i y hy
              refine ⟨_, _, hh, h, fun σ Z w hinv ⟨h1, h2⟩ => ?_⟩
              obtain ⟨rows, h3, h4⟩ := h1 kk ys hys
              obtain ⟨s, r, pre, mid, post, g1, g2, g3, g4, g5, g6⟩ := listPut hinv h3 h4 hx hcs hy
              have hro : σ.real F kk r := ⟨s, g1, g2⟩
              have hk : kk < xs.length := (List.getElem?_eq_some_iff.1 hys).1
              refine ⟨s, r, pre, mid, post, e, g1, g2, g3, g4, g5, fun us w' a b c => ⟨fun j zs hzs => ?_, fun j hj => h2 j (by simpa using hj)⟩⟩
              by_cases e1 : j = kk
              · subst e1
                rw [List.getElem?_set_self hk] at hzs
                cases hzs
                exact g6 us w' a b c
              · rw [List.getElem?_set_ne (Ne.symm e1)] at hzs
                obtain ⟨rows2, q1, q2⟩ := h1 j zs hzs
                have hle : Le σ Z w σ Z w' := j2v hinv hro c
                refine ⟨rows2, q1.mono hle, q2.keep fun s2 r2 e2 e3 => c r2 fun e4 => ?_⟩
                subst e4
                exact e1 (hinv.inj _ _ _ _ _ ⟨s2, e2, e3⟩ hro).2
            · cases h
          · cases h
        · cases h
      · cases h
    · cases h
  · cases h
theorem j1z {σ : Num} {Z : Zone} {w : World} : RV M σ Z w V.und undef := by
  simp only [V.und, RV]
  exact ⟨#[], rfl, rfl, by simp [RVs]⟩
theorem z88 {S : St} {o : Oper} {t : TypeId} {x y : Operand} {u v : V} {k : Out → Option α} {r : α} (ho : o.op = .store t x y) (hx : S.ev x = some u) (hy : S.ev y = some v) (h : j05 M S t u v k = some r) :
    ∃ out, k out = some r ∧ Good M S.fs o out := by
  unfold j05 at h
  split at h
  · rename_i b i off ti hti
    cases hc : (v.isA && Nat.beq v.cells.length ti.size && v.cells.all V.one) with
    | false => simp [hc] at h
    | true =>
    simp only [hc, cond_true] at h
    simp only [Bool.and_eq_true] at hc
    obtain ⟨⟨c1, c2⟩, c3⟩ := hc
    have c2' := Nat.eq_of_beq_eq_true c2
    obtain ⟨he, he', h1, h2, h3⟩ := z3m (M := M) h c3
    refine ⟨_, h2, fun σ Z a w hi hop ht _ K Q hK => ?_⟩
    obtain ⟨s, rr, pre, mid, post, e, g1, g2, g3, g4, g5, g6⟩ := h3 σ Z w hi (ht b.1 (.inr (by simp [fams])) he h1)
    obtain ⟨r', k1, k2⟩ := q98 (hop x (by simp [ho, Op.operands]) _ (by rw [q2f, hx])) g1
    rw [g2] at k1
    cases k1
    have hval := hop y (by simp [ho, Op.operands]) v (by rw [q2f, hy])
    have hcells := hval.cells c1
    have hlen := hcells.length
    have hones := hcells.ones c3
    have hst := run_storeCells_at M.P rr (i * s.row + off) e (a.eval y).cells.toList 0 (pre ++ (mid ++ post)).toArray w g3 (by rw [← hlen]; simp; omega) hones
    have hsize : (a.eval y).cells.size = ti.size := by rw [← c2', hlen]; simp
    have hnew : (pre ++ (mid ++ post)).take (i * s.row + off) ++ ((a.eval y).cells.toList ++ (pre ++ (mid ++ post)).drop (i * s.row + off + ti.size)) = pre ++ ((a.eval y).cells.toList ++ post) := by
      rw [← g4, List.take_left', List.drop_append, List.drop_eq_nil_of_le (show pre.length ≤ pre.length + ti.size by omega)]
      · simp only [Nat.add_sub_cancel_left, List.nil_append]
        rw [← c2', ← g5, List.drop_left']
        rfl
      · rfl
    have hrun : (execOp a.eval o).run M.P w = .ok .skip (w.setRow rr (pre ++ ((a.eval y).cells.toList ++ post)).toArray) := by
      rw [← hnew]
      simp only [execOp, ho, Instr.storeAt, k2, Instr.sureAddr, Sem.run_bind, Sem.run_pure, Result.andThen_ok, storeVar, q26 hti, hsize, ne_eq, not_true_eq_false, if_false]
      rw [hst]
      have hl2 : ((a.eval y).cells.toList).length = ti.size := by simpa using hsize
      simp [hsize]
    have hro : σ.real b.1 b.2 rr := ⟨s, g1, g2⟩
    have hkeep : ∀ c, c ≠ rr → (w.setRow rr (pre ++ ((a.eval y).cells.toList ++ post)).toArray).heap[c]? = w.heap[c]? := fun c hc => setRow_other w rr c _ hc
    refine j2p hrun (hK undef _ σ Z j1z (z3u hi hro hkeep (setRow_size _ _ _) rfl rfl rfl ?_))
    exact g6 _ _ hcells (setRow_heap w rr _ _ _ _ g3) hkeep
  · cases h
end Go.Proofs.YtdjkdmjdcdljmaaGreatDoorY
namespace Go.Proofs.YtdjkdmjdcdljmaaGreatDoorY
open Go.RowKit
variable {M : Cfg} {α : Type}
theorem z3w {F : Fs} {o : Oper} {x : Operand} {v : V} (ho : ∀ ρ, execOp ρ o = pure (.value (ρ x))) (hx : F.ev x = some v) (hm : x ∈ o.op.operands) : Good M F o { v := v } :=
  q1e (rds := []) fun σ Z a w hi hop _ => ⟨a.eval x, hop x hm v hx, by rw [ho]; rfl⟩
theorem z40 {F : Fs} {o : Oper} {c x y z : Operand} {v : V} {t : Bool} (ho : o.op = .pick c x y) (hc : F.ev c = some (.lf (.bool t))) (hz : z = if t then x else y) (hx : F.ev z = some v) : Good M F o { v := v } := by
  refine q1e (rds := []) fun σ Z a w hi hop _ => ⟨a.eval z, hop z (by cases t <;> simp [ho, Op.operands, hz]) v hx, ?_⟩
  have e : a.eval c = .bool t := by have := hop c (by simp [ho, Op.operands]) _ hc; simp only [RV] at this; exact this.2
  simp only [execOp, ho, e, asBool, hz]
  cases t <;> rfl
theorem q2x {σ : Num} {Z : Zone} {w : World} {u v' : Value} (h : RV M σ Z w (.lf u) v') : v' = u := by simp only [RV] at h; exact h.2
theorem q9l {σ : Num} {Z : Zone} {w : World} {u : Value} (h : z0f u = true) : RV M σ Z w (.lf u) u := by simp only [RV]; exact ⟨h, by trivial⟩
theorem z53 {F : Fs} {o : Oper} {op : BinOp} {t ty : TypeId} {x y : Operand} {u v : Value} {k : Out → Option α} {r : α} (hq : op = .quo ∨ op = .rem) (ho : o.op = .binOp op t x y ty)
    (hx : F.ev x = some (.lf u)) (hy : F.ev y = some (.lf v)) (h : opDiv op u v k = some r) : ∃ out, k out = some r ∧ Good M F o out := by
  rcases hq with rfl | rfl
  all_goals
    cases u <;> simp only [opDiv, reduceCtorEq] at h
    case int j a =>
    cases v <;> simp only [opDiv, reduceCtorEq] at h
    case int j' b =>
    cases hj : IntKind.beq' j j' with
    | false => simp [hj] at h
    | true =>
    have := IntKind.beq'_eq hj
    subst this
    cases hb : (b == 0) with
    | true => simp [hj, hb] at h
    | false =>
    simp only [hj, hb, cond_true, cond_false] at h
    refine ⟨_, h, q1e (rds := []) fun σ Z a' w hi hop _ => ⟨_, q9l rfl, ?_⟩⟩
    have e1 : a'.eval x = .int j a := q2x (hop x (by simp [ho, Op.operands]) _ hx)
    have e2 : a'.eval y = .int j b := q2x (hop y (by simp [ho, Op.operands]) _ hy)
    have hb' : b ≠ 0 := by simpa using hb
    simp [execOp, ho, e1, e2, eqGuard, binOp, Op.intDiv, hb']
theorem z8s {F : Fs} {o : Oper} {op : BinOp} {t ty : TypeId} {x y : Operand} {u v : Value} {k : Out → Option α} {r : α} (hq : op = .shl ∨ op = .shr) (ho : o.op = .binOp op t x y ty)
    (hx : F.ev x = some (.lf u)) (hy : F.ev y = some (.lf v)) (h : opSh op u v k = some r) : ∃ out, k out = some r ∧ Good M F o out := by
  rcases hq with rfl | rfl
  all_goals
    cases u <;> simp only [opSh, reduceCtorEq] at h
    case int j a =>
    cases v <;> simp only [opSh, reduceCtorEq] at h
    case int j' b =>
    cases hb : decide (b < 0) with
    | true => simp [hb] at h
    | false =>
    simp only [hb, cond_false] at h
    refine ⟨_, h, q1e (rds := []) fun σ Z a' w hi hop _ => ⟨_, q9l rfl, ?_⟩⟩
    have e1 : a'.eval x = .int j a := q2x (hop x (by simp [ho, Op.operands]) _ hx)
    have e2 : a'.eval y = .int j' b := q2x (hop y (by simp [ho, Op.operands]) _ hy)
    have hb' : ¬ b < 0 := by simpa using hb
    simp only [execOp, ho, e1, e2, Sem.run_bind, eqGuard]
    simp [binOp, Op.shift, hb']
def EqOk (P : Program) (E : EqBy) : Prop := ∀ t x y r, E t x y = some r →
  (∀ w, (Op.equalIn 10000 t x y).run P w = .ok r w) ∧ P.eqGuardType P.depth t = false
theorem z31 {P : Program} {op : BinOp} {t ty : TypeId} {x y : Operand} {o : Oper} {a : Act} {w : World} {b : Bool} (hop : op = .eql ∨ op = .neq) (ho : o.op = .binOp op t x y ty) {u v : Value} (e1 : a.eval x = u) (e2 : a.eval y = v)
    (hg : (eqGuard op t x y u v).run P w = .ok () w) (hq : (Op.equalIn 10000 t u v).run P w = .ok b w) (h1 : (∃ p, u = .pointer p) ∧ v = .pointer none ∨ (∃ t' v', u = .iface t' v') ∧ v = .nilIface ∨ u = .nilIface ∧ v = .nilIface) :
    (execOp a.eval o).run P w = .ok (.value (.bool (if op = .eql then b else !b))) w := by
  have hq' : (Op.equal t u v).run P w = .ok b w := hq
  rcases hop with rfl | rfl
  · rcases h1 with ⟨⟨p, rfl⟩, rfl⟩ | ⟨⟨t', v', rfl⟩, rfl⟩ | ⟨rfl, rfl⟩ <;> simp [execOp, ho, e1, e2, hg, binOp, hq']
  · rcases h1 with ⟨⟨p, rfl⟩, rfl⟩ | ⟨⟨t', v', rfl⟩, rfl⟩ | ⟨rfl, rfl⟩ <;> simp [execOp, ho, e1, e2, hg, binOp, hq']
theorem q8s {P : Program} {op : BinOp} {t : TypeId} {x y : Operand} {u v : Value} {w : World} (h1 : (∃ p, u = .pointer p) ∨ ∃ t' v', u = .iface t' v') : (eqGuard op t x y u v).run P w = .ok () w := by
  rcases h1 with ⟨p, rfl⟩ | ⟨t', v', rfl⟩ <;> cases op <;> simp [eqGuard]
theorem guard_nil {P : Program} {op : BinOp} {t : TypeId} {x y : Operand} {w : World} (hy : isConst y = true) : (eqGuard op t x y .nilIface .nilIface).run P w = .ok () w := by
  cases y <;> simp [isConst] at hy
  cases op <;> simp [eqGuard]
theorem j3x {Z : Zone} {w : World} {e : Err} {u : Value} (h : ErrR M Z w e u) : (e.isNil = true ∧ u = .nilIface) ∨ (e.isNil = false ∧ ∃ t v, u = .iface t v) := by
  cases e with
  | nil => simp only [ErrR] at h; exact .inl ⟨rfl, h⟩
  | no n => simp only [ErrR] at h; exact .inr ⟨rfl, _, _, h⟩
  | «at» p e => obtain ⟨_, _, _, _, _, _, h, _⟩ := h; exact .inr ⟨rfl, _, _, h⟩
theorem lit_pin {t : Ty} {x : Option t.I} {u : Value} (h : q9v (.pin t x) u = true) : u = .pointer none := by
  cases u
  case pointer a => cases a with
    | none => rfl
    | some _ => cases h
  all_goals cases h
theorem lit_ptr {b : Bid} {i off : Nat} {u : Value} (h : q9v (.ptr b i off) u = true) : u = .pointer none := by
  cases u
  case pointer a => cases a with
    | none => rfl
    | some _ => cases h
  all_goals cases h
theorem eqIn_nn {P : Program} {t : TypeId} {ms : Array (String × TypeId)} (d : Nat) (hu : P.underlying t = some (.interface ms)) (w : World) : (Op.equalIn (d + 1) t .nilIface .nilIface).run P w = .ok true w := by simp [Op.equalIn, run_underlying hu]
theorem eqIn_in {P : Program} {t t' : TypeId} {v : Value} {ms : Array (String × TypeId)} (d : Nat) (hu : P.underlying t = some (.interface ms)) (w : World) : (Op.equalIn (d + 1) t (.iface t' v) .nilIface).run P w = .ok false w := by simp [Op.equalIn, run_underlying hu]
theorem eqIn_p {P : Program} {t el : TypeId} (d : Nat) (hu : P.underlying t = some (.pointer el)) (w : World) (p : Option Addr) : (Op.equalIn (d + 1) t (.pointer p) (.pointer none)).run P w = .ok p.isNone w := by
  cases p <;> simp [Op.equalIn, run_underlying hu]
theorem j0q {S : St} {o : Oper} {t ty : TypeId} {x y : Operand} {op : BinOp} {u : Value} {v : V} {b : Bool} {f : Option Nat} (hop : op = .eql ∨ op = .neq) (ho : o.op = .binOp op t x y ty) (hx : S.ev x = some v) (hy : S.ev y = some (.lf u))
    (hl : q9v v u = true) (hc : isConst y = true) (hn : nilB (M.P.underlying t) v = some (b, f)) (hp : ptrOk S v = true) : Good M S.fs o { v := .lf (.bool (if op = .eql then b else !b)), rds := idOf f } := by
  refine q1e fun σ Z a w hi hops ht => ⟨_, q9l rfl, ?_⟩
  have hv := hops x (by simp [ho, Op.operands]) v (by rw [q2f, hx])
  have e2 : a.eval y = u := q2x (hops y (by simp [ho, Op.operands]) _ (by rw [q2f, hy]))
  unfold nilB at hn
  split at hn
  · rename_i e
    split at hn
    · rename_i ms hu
      simp only [Option.some.injEq, Prod.mk.injEq] at hn
      obtain ⟨rfl, rfl⟩ := hn
      have hu2 : u = .nilIface := by unfold q9v at hl; cases u <;> first | rfl | cases hl
      subst hu2
      simp only [RV] at hv
      rcases j3x hv with ⟨h1, h2⟩ | ⟨h1, t', v', h2⟩
      · exact z31 hop ho h2 e2 (guard_nil hc) (by rw [h1]; exact eqIn_nn 9999 hu w) (.inr (.inr ⟨rfl, rfl⟩))
      · exact z31 hop ho h2 e2 (q8s (.inr ⟨_, _, rfl⟩)) (by rw [h1]; exact eqIn_in 9999 hu w) (.inr (.inl ⟨⟨_, _, rfl⟩, rfl⟩))
    · cases hn
  · rename_i t' y'
    split at hn
    · rename_i el hu
      simp only [Option.some.injEq, Prod.mk.injEq] at hn
      obtain ⟨rfl, rfl⟩ := hn
      have hu2 : u = .pointer none := lit_pin hl
      subst hu2
      simp only [RV] at hv
      cases y' with
      | none =>
        simp only [DV] at hv
        simp at hv
        exact z31 hop ho hv e2 (q8s (.inl ⟨_, rfl⟩)) (eqIn_p 9999 hu w _) (.inl ⟨⟨_, rfl⟩, rfl⟩)
      | some y' =>
        simp only [DV] at hv
        obtain ⟨_, _, _, _, _, _, _, _, hv, _⟩ := hv
        simp at hv
        exact z31 hop ho hv e2 (q8s (.inl ⟨_, rfl⟩)) (eqIn_p 9999 hu w _) (.inl ⟨⟨_, rfl⟩, rfl⟩)
    · cases hn
  · rename_i b' i off
    split at hn
    · rename_i el hu
      simp only [Option.some.injEq, Prod.mk.injEq] at hn
      obtain ⟨rfl, rfl⟩ := hn
      have hu2 : u = .pointer none := lit_ptr hl
      subst hu2
      obtain ⟨he, h1, h2⟩ := q5n (M := M) (show q81 S.heap b' = true from hp)
      obtain ⟨s, hs, _⟩ := h2 σ Z w (ht b'.1 (by simp [idOf]) he h1)
      obtain ⟨r, _, hv⟩ := q98 hv hs
      exact z31 hop ho hv e2 (q8s (.inl ⟨_, rfl⟩)) (eqIn_p 9999 hu w _) (.inl ⟨⟨_, rfl⟩, rfl⟩)
    · cases hn
  · cases hn
theorem bif_eq (neg b : Bool) (op : BinOp) (h : neg = false ∧ op = .eql ∨ neg = true ∧ op = .neq) : (bif neg then !b else b) = if op = .eql then b else !b := by
  rcases h with ⟨rfl, rfl⟩ | ⟨rfl, rfl⟩ <;> rfl
theorem z8c {E : EqBy} {S : St} {o : Oper} {t ty : TypeId} {x y : Operand} {op : BinOp} {neg : Bool} {k : Out → Option α} {r : α} (hE : EqOk M.P E) (hop : neg = false ∧ op = .eql ∨ neg = true ∧ op = .neq) (ho : o.op = .binOp op t x y ty)
    (h : opEq M E S o t x y neg k = some r) : ∃ out, k out = some r ∧ Good M S.fs o out := by
  have hop' : op = .eql ∨ op = .neq := hop.imp And.right And.right
  unfold opEq at h
  split at h
  · exact q6z (by intro cs b e; rw [ho] at e; cases e) h
  · rename_i v u _ hx hy
    cases hc : (q9v v u && isConst y) with
    | false => simp [hc] at h
    | true =>
    simp only [hc, cond_true] at h
    simp only [Bool.and_eq_true] at hc
    split at h
    · rename_i b f hn
      cases hp : ptrOk S v with
      | false => simp [hp] at h
      | true =>
        simp only [hp, cond_true, bif_eq neg b op hop] at h
        exact ⟨_, h, j0q hop' ho hx hy hc.1 hc.2 hn hp⟩
    · cases h
  · rename_i u v hx hy
    split at h
    · rename_i us vs hu hv
      split at h
      · rename_i q hq
        rw [bif_eq neg q op hop] at h
        obtain ⟨h1, h2⟩ := hE _ _ _ _ hq
        refine ⟨_, h, q1e (rds := []) fun σ Z a w hi hops _ => ⟨_, q9l rfl, ?_⟩⟩
        have e1 : a.eval x = .agg us.toArray := (hops x (by simp [ho, Op.operands]) _ (by rw [q2f, hx])).flat (by simp [V.j0h, hu])
        have e2 : a.eval y = .agg vs.toArray := (hops y (by simp [ho, Op.operands]) _ (by rw [q2f, hy])).flat (by simp [V.j0h, hv])
        rcases hop' with rfl | rfl
        · simp [execOp, ho, e1, e2, run_eqGuard_agg w _ t x y us.toArray vs.toArray h2, run_eql_struct, h1]
        · simp [execOp, ho, e1, e2, run_eqGuard_agg w _ t x y us.toArray vs.toArray h2, run_neq_struct, h1]
      · cases h
    · cases h
  · cases h
theorem z93 {S : St} {o : Oper} {s : TypeId} {x : Operand} {f : Nat} {u : V} {k : Out → Option α} {r : α} (ho : o.op = .fieldAddr s x f) (hx : S.ev x = some u) (h : j0p M S s u f k = some r) :
    ∃ out, k out = some r ∧ Good M S.fs o out := by
  unfold j0p at h
  split at h
  · rename_i fs hu
    split at h
    · rename_i fd hf
      split at h
      · rename_i i hi
        cases hz : Nat.beq i.size 0 with
        | true => simp [hz] at h
        | false =>
        simp only [hz, cond_false] at h
        have hz' : i.size ≠ 0 := by intro e; rw [e] at hz; cases hz
        split at h
        · rename_i b r' off
          cases hal : q81 S.heap b with
          | false => simp [hal] at h
          | true =>
          simp only [hal, cond_true] at h
          obtain ⟨he, h1, h2⟩ := q5n (M := M) hal
          refine ⟨_, h, q1e fun σ Z a w hinv hops ht => ?_⟩
          obtain ⟨s', hs, _⟩ := h2 σ Z w (ht b.1 (by simp) he h1)
          obtain ⟨rr, h3, h4⟩ := q98 (hops x (by simp [ho, Op.operands]) _ (by rw [q2f, hx])) hs
          refine ⟨.pointer (some ⟨rr, r' * s'.row + (off + fd.offset), none⟩), by simp only [RV, hs]; exact ⟨rr, h3, rfl⟩, ?_⟩
          simp [execOp, ho, Instr.fieldAt, run_underlying hu, hf, h4, Instr.sureAddr, fieldPlace, q26 hi, hz', q6p, Nat.add_assoc]
        · rename_i ty y
          split at h
          · rename_i z
            split at h
            · rename_i t' p hp
              refine ⟨_, h, q1e (rds := []) fun σ Z a w hinv hops _ => ?_⟩
              have hv := hops x (by simp [ho, Op.operands]) _ (by rw [q2f, hx])
              simp only [RV, DV] at hv
              obtain ⟨b, off, cs, el, fr, pre, row, post, k1, k2, k3, k4, k5, k6⟩ := hv
              simp at k1
              obtain ⟨pre2, mid, post2, q1, q2, q3⟩ := Ty.part_spec hp k6
              refine ⟨.pointer (some ⟨b, off + fd.offset, none⟩), ?_, ?_⟩
              · simp only [RV, DV]
                exact ⟨b, off + fd.offset, cs, el, fr, pre ++ pre2, mid, post2 ++ post, rfl, k2, k3, by rw [k4, q1]; simp, by rw [List.length_append, k5, q2], q3⟩
              · simp [execOp, ho, Instr.fieldAt, run_underlying hu, hf, k1, Instr.sureAddr, fieldPlace, q26 hi, hz', q6p]
            · cases h
          · cases h
        · cases h
      · cases h
    · cases h
  · cases h
theorem z02 {i : Value} {n : Nat} {k : Nat → Option α} {r : α} (h : inB i n k = some r) : ∃ kd j, i = .int kd j ∧ 0 ≤ j ∧ j < (n : Int) ∧ k j.toNat = some r := by
  unfold inB at h
  split at h
  · rename_i kd j
    cases h0 : decide (0 ≤ j) with
    | false => simp [h0] at h
    | true =>
    cases h1 : Nat.blt j.toNat n with
    | false => simp [h0, h1] at h
    | true =>
    simp only [h0, h1, cond_true] at h
    have h0' : 0 ≤ j := by simpa using h0
    have h1' : j.toNat < n := Nat.le_of_ble_eq_true h1
    exact ⟨kd, j, rfl, h0', by omega, h⟩
  · cases h
theorem z18 {w : World} {st : Status} {e : TypeId} {row n : Nat} {cells : List Value} (h : BlkR w st e row n cells) (hrow : row ≠ 0) : ∃ s, st = .alive s ∧ s.row = row ∧ ((s.real = none ∧ n = 0 ∧ ∃ a, s.whole = .slice a 0 0) ∨ ∃ r, s.real = some r ∧ s.whole = .slice (some ⟨r, 0, none⟩) n s.cap ∧ n ≤ s.cap) := by
  obtain ⟨s, h1, h2, h3, h4⟩ := h
  refine ⟨s, h1, h2, ?_⟩
  rcases h4 with ⟨a, b, _, c⟩ | ⟨r, rest, a, b, c⟩
  · exact .inl ⟨a, b, c⟩
  · refine .inr ⟨r, a, (c hrow).2.2, ?_⟩
    have h5 := (c hrow).2.1
    have h6 := h3 hrow
    rw [List.length_append, h6] at h5
    have : n * row ≤ s.cap * row := by omega
    exact Nat.le_of_mul_le_mul_right this (Nat.pos_of_ne_zero hrow)
def WholeR (σ : Num) (H : List HE) (b : Bid) (n : Nat) : Prop := ∃ s, σ b.1 b.2 = .alive s ∧ s.row = z2y H b.1 ∧ ((s.real = none ∧ n = 0 ∧ ∃ a, s.whole = .slice a 0 0) ∨ ∃ r, s.real = some r ∧ s.whole = .slice (some ⟨r, 0, none⟩) n s.cap ∧ n ≤ s.cap)
theorem z1q {H : List HE} {b : Bid} {n : Nat} (h : lenAt H b = some n) : ∃ he, H[b.1]? = some he ∧ ∀ (σ : Num) (Z : Zone) (w : World), HER M σ Z w b.1 he → WholeR σ H b n := by
  obtain ⟨F, kk⟩ := b
  unfold lenAt at h
  split at h
  · rename_i e row cs hh
    split at h
    · rename_i r h0
      have h0 : kk = 0 := h0
      subst h0
      cases h
      refine ⟨_, hh, fun σ Z w ⟨_, _, vs, n, k1, k2⟩ => ?_⟩
      have hn : cs.length / (r + 1) = n := by
        obtain ⟨s, _, _, q, _⟩ := k2
        rw [k1.length, q (by omega), Nat.mul_div_cancel _ (by omega)]
      obtain ⟨s, q1, q2, q3⟩ := z18 k2 (by omega)
      rw [hn]
      exact ⟨s, q1, by simp only [z2y, hh, q2], q3⟩
    · cases h
  · rename_i e t fs xs hh
    split at h
    · rename_i h1
      simp only at h1; subst h1
      cases h
      refine ⟨_, hh, fun σ Z w ⟨_, rows, k1, k2⟩ => ?_⟩
      obtain ⟨s, q1, q2, q3⟩ := z18 k2 (Nat.pos_iff_ne_zero.1 t.size_pos)
      exact ⟨s, q1, by simp only [z2y, hh, q2], q3⟩
    · cases h
  · rename_i e t xs hh
    split at h
    · rename_i o hys
      split at h
      · rename_i ys
        cases h
        refine ⟨_, hh, fun σ Z w ⟨k1, _⟩ => ?_⟩
        obtain ⟨rows, q1, q2⟩ := k1 kk ys hys
        obtain ⟨s, q1, q4, q3⟩ := z18 q2 (Nat.pos_iff_ne_zero.1 t.size_pos)
        exact ⟨s, q1, by simp only [z2y, hh, q4], q3⟩
      · cases h
    · cases h
  · cases h
theorem q8e {σ : Num} {Z : Zone} {w : World} {b : Bid} {v' : Value} {s : Slot} (h : RV M σ Z w (.own b) v') (hs : σ b.1 b.2 = .alive s) : v' = s.whole := by
  simp only [RV, hs] at h
  exact h.1
theorem z6j {σ : Num} {Z : Zone} {w : World} {b : Bid} {lo n : Nat} {v' : Value} {s : Slot} (h : RV M σ Z w (.sub b lo n) v') (hs : σ b.1 b.2 = .alive s) : (s.real = none ∧ n = 0 ∧ ∃ a, v' = .slice a 0 0) ∨ ∃ r cap off, s.real = some r ∧ v' = .slice (some ⟨r, off, none⟩) n cap ∧ n ≤ cap ∧ (n = 0 ∨ off = lo * s.row) ∧ (lo = 0 → cap = s.cap ∧ off = 0) := by
  simp only [RV, hs] at h
  exact h.imp (fun h => ⟨h.1, h.2.1, h.2.2.2⟩) id
theorem sub_whole {σ : Num} {Z : Zone} {w : World} {b : Bid} {lo n : Nat} {v' : Value} {s : Slot} (h : RV M σ Z w (.sub b lo n) v') (hs : σ b.1 b.2 = .alive s) (hr : s.real = none) : v' = s.whole := by
  simp only [RV, hs] at h
  rcases h with h | ⟨r, _, _, h, _⟩
  · exact h.2.2.1
  · rw [hr] at h; cases h
end Go.Proofs.YtdjkdmjdcdljmaaGreatDoorY
namespace Go.Proofs.YtdjkdmjdcdljmaaGreatDoorY
open Go.RowKit
variable {M : Cfg} {α : Type}
theorem q00 {c : Bool} {x : Option α} {r : α} (h : (bif c then x else none) = some r) : c = true ∧ x = some r := by
  cases c with
  | false => cases h
  | true => exact ⟨rfl, h⟩
theorem z1p {σ : Num} {Z : Zone} {w : World} {t : Ty} {xs : List t.I} {v' : Value} (h : RV M σ Z w (.deep t xs) v') : ∃ a cap, v' = .slice a xs.length cap ∧ xs.length ≤ cap ∧ (xs = [] ∨
      ∃ b off cs el fr pre post, ∃ rows : List (List Value), a = some ⟨b, off, none⟩ ∧ Z b ∧ w.heap[b]? = some (.cells cs el fr) ∧ cs.toList = pre ++ (rows.flatten ++ post) ∧ pre.length = off ∧ All2 (DV M Z w t) xs rows) := by
  simp only [RV, DV] at h
  obtain ⟨a, cap, h1, h2⟩ := h
  simp at h1
  exact ⟨a, cap, h1, h2⟩
theorem DVs.len {Z : Zone} {w : World} {t : Ty} {xs : List t.I} {rows : List (List Value)} (h : All2 (DV M Z w t) xs rows) : ∀ r ∈ rows, r.length = t.size := by
  induction rows generalizing xs with
  | nil => simp
  | cons r rows ih =>
    cases xs with
    | nil => exact h.elim
    | cons x xs =>
      intro q hq
      rcases List.mem_cons.1 hq with rfl | hq
      · exact h.1.length
      · exact ih h.2 q hq
theorem z1u {i : Nat} {k : Nat → Option α} {r : α} : ∀ {n : Nat}, j3l i k n = some r → k i = some r
  | 0, h => by simp [j3l] at h
  | n + 1, h => by
    unfold j3l at h
    cases hb : Nat.beq i n with
    | true => rw [hb] at h; rw [Nat.eq_of_beq_eq_true hb]; exact h
    | false => rw [hb] at h; exact z1u h
theorem z21 {S : St} {o : Oper} {t : TypeId} {x i : Operand} {u : V} {v : Value} {k : Out → Option α} {r : α} (ho : o.op = .indexAddr t x i) (hx : S.ev x = some u) (hi : S.ev i = some (.lf v)) (h : z0e M S t u v k = some r) :
    ∃ out, k out = some r ∧ Good M S.fs o out := by
  unfold z0e at h
  split at h
  · rename_i e hu
    split at h
    · rename_i ti hti
      split at h
      · rename_i b
        split at h
        · rename_i n hn
          obtain ⟨hsz, h⟩ := q00 h
          have hsz := Nat.eq_of_beq_eq_true hsz
          obtain ⟨kd, j, rfl, j0, j1, h⟩ := z02 h
          have h : k { v := .ptr b j.toNat 0, rds := [b.1] } = some r := by
            cases hcb : j1o S.heap b with
            | true => rw [hcb] at h; exact z1u (k := fun c => k { v := .ptr b c 0, rds := [b.1] }) h
            | false => rw [hcb] at h; exact h
          obtain ⟨he, h1, h2⟩ := z1q (M := M) hn
          refine ⟨_, h, q1e fun σ Z a w hinv hops ht => ?_⟩
          obtain ⟨s, hs, hr, hw⟩ := h2 σ Z w (ht b.1 (by simp) he h1)
          have hv := q8e (hops x (by simp [ho, Op.operands]) _ (by rw [q2f, hx])) hs
          have hi' : a.eval i = .int kd j := q2x (hops i (by simp [ho, Op.operands]) _ (by rw [q2f, hi]))
          rcases hw with ⟨_, h0, _⟩ | ⟨rr, q1, q2, q3⟩
          · omega
          · rw [q2] at hv
            refine ⟨.pointer (some ⟨rr, j.toNat * ti.size, none⟩), by simp only [RV, hs]; exact ⟨rr, q1, by rw [hr, hsz, Nat.add_zero]⟩, ?_⟩
            have := q6p rr 0 (j.toNat * ti.size)
            simp only [Nat.zero_add] at this
            simp [execOp, ho, hv, hi', Instr.indexAt, asIntOf, run_underlying hu, j0, j1, q26 hti, this]
        · cases h
      · rename_i b lo n
        obtain ⟨hc, h⟩ := q00 h
        simp only [Bool.and_eq_true] at hc
        have hsz := Nat.eq_of_beq_eq_true hc.2
        obtain ⟨kd, j, rfl, j0, j1, h⟩ := z02 h
        obtain ⟨he, h1, h2⟩ := q5n (M := M) hc.1
        refine ⟨_, h, q1e fun σ Z a w hinv hops ht => ?_⟩
        obtain ⟨s, hs, hr⟩ := h2 σ Z w (ht b.1 (by simp) he h1)
        have hi' : a.eval i = .int kd j := q2x (hops i (by simp [ho, Op.operands]) _ (by rw [q2f, hi]))
        rcases z6j (hops x (by simp [ho, Op.operands]) _ (by rw [q2f, hx])) hs with ⟨_, h0, _⟩ | ⟨rr, cap, off, q1, hv, q3, q4, _⟩
        · omega
        · have q4 : off = lo * s.row := q4.resolve_left (by omega)
          refine ⟨.pointer (some ⟨rr, off + j.toNat * ti.size, none⟩), by simp only [RV, hs]; exact ⟨rr, q1, by rw [q4, hr, hsz, Nat.add_zero, Nat.add_mul]⟩, ?_⟩
          simp [execOp, ho, hv, hi', Instr.indexAt, asIntOf, run_underlying hu, j0, j1, q26 hti, q6p]
      · rename_i ty xs
        split at h
        · rename_i kd j
          obtain ⟨hc, h⟩ := q00 h
          simp only [Bool.and_eq_true, decide_eq_true_eq] at hc
          obtain ⟨j0, hsz⟩ := hc
          have hsz := Nat.eq_of_beq_eq_true hsz
          split at h
          · rename_i y hy
            refine ⟨_, h, q1e (rds := []) fun σ Z a w hinv hops _ => ?_⟩
            have hi' : a.eval i = .int kd j := q2x (hops i (by simp [ho, Op.operands]) _ (by rw [q2f, hi]))
            obtain ⟨ad, cap, hv, hcap, hd⟩ := z1p (hops x (by simp [ho, Op.operands]) _ (by rw [q2f, hx]))
            have hlt := (List.getElem?_eq_some_iff.1 hy).1
            rcases hd with rfl | ⟨b, off, cs, el, fr, pre, post, rows, rfl, k2, k3, k4, k5, k6⟩
            · simp at hlt
            · obtain ⟨row, g1, g2⟩ := k6.get hy
              have j1 : j < (xs.length : Int) := by omega
              have hrl := k6.length
              refine ⟨.pointer (some ⟨b, off + j.toNat * ti.size, none⟩), ?_, ?_⟩
              · simp only [RV, DV]
                refine ⟨b, off + j.toNat * ti.size, cs, el, fr, pre ++ (rows.take j.toNat).flatten, row, (rows.drop (j.toNat + 1)).flatten ++ post, rfl, k2, k3, ?_, ?_, g2⟩
                · rw [k4, q7j g1]; simp
                · rw [List.length_append, k5, q07 (DVs.len k6) (by omega), hsz]
              · simp [execOp, ho, hv, hi', Instr.indexAt, asIntOf, run_underlying hu, j0, j1, q26 hti, q6p]
          · cases h
        · cases h
      · cases h
    · cases h
  · rename_i len e hu
    split at h
    · rename_i ti b rr off hti
      obtain ⟨hal, h⟩ := q00 h
      obtain ⟨kd, j, rfl, j0, j1, h⟩ := z02 h
      obtain ⟨he, h1, h2⟩ := q5n (M := M) hal
      refine ⟨_, h, q1e fun σ Z a w hinv hops ht => ?_⟩
      obtain ⟨s, hs, hr⟩ := h2 σ Z w (ht b.1 (by simp) he h1)
      obtain ⟨q, q1, hv⟩ := q98 (hops x (by simp [ho, Op.operands]) _ (by rw [q2f, hx])) hs
      have hi' : a.eval i = .int kd j := q2x (hops i (by simp [ho, Op.operands]) _ (by rw [q2f, hi]))
      refine ⟨.pointer (some ⟨q, rr * s.row + (off + j.toNat * ti.size), none⟩), by simp only [RV, hs]; exact ⟨q, q1, rfl⟩, ?_⟩
      simp [execOp, ho, hv, hi', Instr.indexAt, asIntOf, run_underlying hu, j0, j1, q26 hti, Instr.sureAddr, q6p, Nat.add_assoc]
    · cases h
  · cases h
theorem z76 {σ : Num} {Z : Zone} {w : World} {t : TypeId} {cs : List V} {off : Nat} {v : V} {vs : Array Value} (h : z47 M t cs off = some v) (hone : cs.all V.one = true) (hv : RVs M σ Z w cs vs.toList) :
    ∃ v', RV M σ Z w v v' ∧ (part t vs off).run M.P w = .ok v' w := by
  have hl := hv.length
  unfold z47 at h
  unfold part
  split at h
  · rename_i i ha hi
    split at h
    · rename_i us hus
      cases h
      obtain ⟨h1, rfl⟩ := z5r hus
      refine ⟨.agg (vs.extract off (off + i.size)), ?_, by simp [q8j ha, q26 hi]⟩
      simp only [RV]
      refine ⟨_, rfl, ?_, ?_⟩
      · rw [List.all_eq_true] at hone ⊢
        exact fun x hx => hone x (List.mem_of_mem_drop (List.mem_of_mem_take hx))
      · have : (vs.extract off (off + i.size)).toList = (vs.toList.drop off).take i.size := by
          rw [Array.toList_extract, List.extract_eq_take_drop]; simp
        rw [this]
        exact (hv.drop off).take i.size
    · cases h
  · rename_i ha
    obtain ⟨v', h1, h2⟩ := hv.get h
    refine ⟨v', h2, ?_⟩
    have : vs[off]? = some v' := by simpa using h1
    simp [q8j ha, this]
  · cases h
theorem z8m {S : St} {o : Oper} {t : TypeId} {x i : Operand} {u : V} {v : Value} {k : Out → Option α} {r : α} (ho : o.op = .index t x i) (hx : S.ev x = some u) (hi : S.ev i = some (.lf v)) (h : j1d M t u v k = some r) :
    ∃ out, k out = some r ∧ Good M S.fs o out := by
  unfold j1d at h
  split at h
  · rename_i s hu
    obtain ⟨kd, j, rfl, j0, j1, h⟩ := z02 h
    refine ⟨_, h, q1e (rds := []) fun σ Z a w hinv hops _ => ⟨_, q9l rfl, ?_⟩⟩
    have e1 : a.eval x = .string s := q2x (hops x (by simp [ho, Op.operands]) _ (by rw [q2f, hx]))
    have e2 : a.eval i = .int kd j := q2x (hops i (by simp [ho, Op.operands]) _ (by rw [q2f, hi]))
    have hlt : j.toNat < s.size := by omega
    simp [execOp, ho, e1, e2, Instr.index, asIntOf, run_underlying hu, j0, hlt]
  · rename_i len e cs hu
    split at h
    · rename_i ti hti
      obtain ⟨kd, j, rfl, j0, j1, h⟩ := z02 h
      have h := z1u h
      split at h
      · rename_i v hv
        refine ⟨_, h, q1e (rds := []) fun σ Z a w hinv hops _ => ?_⟩
        have hx' := hops x (by simp [ho, Op.operands]) _ (by rw [q2f, hx])
        have e2 : a.eval i = .int kd j := q2x (hops i (by simp [ho, Op.operands]) _ (by rw [q2f, hi]))
        simp only [RV] at hx'
        obtain ⟨cs', e1, h1, h2⟩ := hx'
        obtain ⟨v', g1, g2⟩ := z76 hv h1 h2
        exact ⟨v', g1, by simp [execOp, ho, e1, e2, Instr.index, asIntOf, run_underlying hu, j0, j1, q26 hti, g2]⟩
      · cases h
    · cases h
  · cases h
theorem z74 {S : St} {o : Oper} {t : TypeId} {x : Operand} {f : Nat} {cs : List V} {fs : Array Field} {fd : Field} {v : V} (ho : o.op = .field t x f) (hx : S.ev x = some (.agg cs)) (hu : M.P.underlying t = some (.struct fs)) (hf : fs[f]? = some fd)
    (hv : z47 M fd.type cs fd.offset = some v) : Good M S.fs o { v := v } := by
  refine q1e (rds := []) fun σ Z a w hinv hops _ => ?_
  have hx' := hops x (by simp [ho, Op.operands]) _ (by rw [q2f, hx])
  simp only [RV] at hx'
  obtain ⟨cs', e1, h1, h2⟩ := hx'
  obtain ⟨v', g1, g2⟩ := z76 hv h1 h2
  exact ⟨v', g1, by simp [execOp, ho, e1, Instr.field, run_underlying hu, hf, asAgg, g2]⟩
theorem z43 {S : St} {o : Oper} {x : Operand} {i : Nat} {vs : List V} {v : V} (ho : o.op = .extract x i) (hx : S.ev x = some (.tup vs)) (hv : vs[i]? = some v) : Good M S.fs o { v := v } := by
  refine q1e (rds := []) fun σ Z a w hinv hops _ => ?_
  have hx' := hops x (by simp [ho, Op.operands]) _ (by rw [q2f, hx])
  simp only [RV] at hx'
  obtain ⟨vs', e1, _, h2⟩ := hx'
  obtain ⟨v', g1, g2⟩ := h2.get hv
  have : vs'[i]? = some v' := by simpa using g1
  exact ⟨v', g2, by simp [execOp, ho, e1, Instr.extract, this]⟩
theorem z3b {S : St} : ∀ {l : List Operand} {vs : List V}, S.evs l = some vs → ∀ (σ : Num) (Z : Zone) (a : Act) (w : World), (∀ x ∈ l, ∀ v, S.fs.ev x = some v → RV M σ Z w v (a.eval x)) → RVs M σ Z w vs (l.map a.eval)
  | [], vs, h, σ, Z, a, w, _ => by simp [St.evs] at h; subst h; simp [RVs]
  | x :: l, vs, h, σ, Z, a, w, hv => by
    simp only [St.evs] at h
    cases hx : S.ev x with
    | none => simp [hx] at h
    | some v =>
      simp only [hx] at h
      cases hr : S.evs l with
      | none => simp [hr] at h
      | some ws =>
        simp only [hr, Option.some.injEq] at h
        subst h
        simp only [List.map_cons, RVs]
        exact ⟨_, _, rfl, hv x (by simp) v (by rw [q2f, hx]), z3b hr σ Z a w fun y hy => hv y (by simp [hy])⟩
theorem evs_one {S : St} {l : List Operand} {v : V} (h : S.evs l = some [v]) : ∃ x, l = [x] ∧ S.ev x = some v := by
  cases l with
  | nil => simp [St.evs] at h
  | cons x l =>
    simp only [St.evs] at h
    cases hx : S.ev x with
    | none => simp [hx] at h
    | some u =>
      simp only [hx] at h
      cases hr : S.evs l with
      | none => simp [hr] at h
      | some ws =>
        simp only [hr, Option.some.injEq, List.cons.injEq] at h
        obtain ⟨rfl, rfl⟩ := h
        cases l with
        | nil => exact ⟨x, rfl, hx⟩
        | cons y l =>
          simp only [St.evs] at hr
          cases hy : S.ev y with
          | none => simp [hy] at hr
          | some u' => simp only [hy] at hr; cases hq : S.evs l <;> simp [hq] at hr
theorem evs_two {S : St} {l : List Operand} {v u : V} (h : S.evs l = some [v, u]) : ∃ x y, l = [x, y] ∧ S.ev x = some v ∧ S.ev y = some u := by
  cases l with
  | nil => simp [St.evs] at h
  | cons x l =>
    simp only [St.evs] at h
    cases hx : S.ev x with
    | none => simp [hx] at h
    | some u' =>
      simp only [hx] at h
      cases hr : S.evs l with
      | none => simp [hr] at h
      | some ws =>
        simp only [hr, Option.some.injEq, List.cons.injEq] at h
        obtain ⟨rfl, rfl⟩ := h
        obtain ⟨y, rfl, hy⟩ := evs_one hr
        exact ⟨x, y, rfl, hx, hy⟩
theorem j08 {S : St} {o : Oper} {fn : Fn} {first captured : Array Operand} {fs cs : List V} (ho : o.op = .makeFunc fn first captured) (h1 : S.evs first.toList = some fs) (h2 : S.evs captured.toList = some cs) : Good M S.fs o { v := .fn fn fs cs } := by
  refine q1e (rds := []) fun σ Z a w hinv hops _ => ⟨.func fn (first.map a.eval) (captured.map a.eval), ?_, by simp [execOp, ho, Instr.makeFunc]⟩
  simp only [RV]
  refine ⟨_, _, rfl, ?_, ?_⟩
  · have := z3b h1 σ Z a w fun x hx => hops x (by simp only [ho, Op.operands]; simp; exact .inl (by simpa using hx))
    simpa using this
  · have := z3b h2 σ Z a w fun x hx => hops x (by simp only [ho, Op.operands]; simp; exact .inr (by simpa using hx))
    simpa using this
theorem z6y {S : St} {o : Oper} {x : Operand} {b : Bid} {i off : Nat} (ho : o.op = .nilCheck x) (hx : S.ev x = some (.ptr b i off)) (hal : q81 S.heap b = true) : Good M S.fs o { v := .ptr b i off, rds := [b.1] } := by
  obtain ⟨he, h1, h2⟩ := q5n (M := M) hal
  refine q1e fun σ Z a w hinv hops ht => ?_
  obtain ⟨s, hs, _⟩ := h2 σ Z w (ht b.1 (by simp) he h1)
  have hv := hops x (by simp [ho, Op.operands]) _ (by rw [q2f, hx])
  obtain ⟨r, _, e⟩ := q98 hv hs
  exact ⟨_, hv, by simp [execOp, ho, e]⟩
theorem z7k {S : St} {o : Oper} {x : Operand} {t : Ty} {z : t.I} (ho : o.op = .nilCheck x) (hx : S.ev x = some (.pin t (some z))) : Good M S.fs o { v := .pin t (some z) } := by
  refine q1e (rds := []) fun σ Z a w hinv hops ht => ?_
  have hv := hops x (by simp [ho, Op.operands]) _ (by rw [q2f, hx])
  have hv' := hv
  simp only [RV, DV] at hv'
  obtain ⟨b, off, cs, el, fr, pre, row, post, k1, _⟩ := hv'
  simp at k1
  exact ⟨_, hv, by simp [execOp, ho, k1]⟩
theorem z8w {S : St} {o : Oper} {x : Operand} {g : FuncId} {fs cs : List V} (ho : o.op = .nilCheck x) (hx : S.ev x = some (.fn (.func g) fs cs)) : Good M S.fs o { v := .fn (.func g) fs cs } := by
  refine q1e (rds := []) fun σ Z a w hinv hops ht => ?_
  have hv := hops x (by simp [ho, Op.operands]) _ (by rw [q2f, hx])
  have hv' := hv
  simp only [RV] at hv'
  obtain ⟨fs', cs', k1, _⟩ := hv'
  exact ⟨_, hv, by simp [execOp, ho, k1]⟩
theorem j3b {S : St} {o : Oper} {c : Call} {x : Operand} {u : V} {k : Out → Option α} {r : α} (ho : o.op = .call c) (hc : c.callee = .builtin .len) (hargs : c.args.toList = [x]) (hx : S.ev x = some u)
    (h : opLen M S c.argTypes.toList u k = some r) : ∃ out, k out = some r ∧ Good M S.fs o out := by
  have hargs' : c.args = #[x] := by rw [← Array.toList_inj]; exact hargs
  have hmem : x ∈ o.op.operands := by simp [ho, Op.operands, Call.operands, hc, hargs']
  unfold opLen at h
  split at h
  · rename_i t ts hts
    have ht0 : c.argTypes[0]? = some t := by rw [← Array.getElem?_toList, hts]; rfl
    have run : ∀ (a : Act) (w : World) (e : TypeId) (ad : Option Addr) (n cap : Nat), M.P.underlying t = some (.slice e) → a.eval x = .slice ad n cap → (execOp a.eval o).run M.P w = .ok (.value (.int .i64 n)) w := fun a w e ad n cap hu e1 => by
      simp [execOp, ho, resolve, hc, hargs', e1, invoke, builtin, Builtin.len_, ht0, run_underlying hu, goInt]
    split at h
    · rename_i e hu
      split at h
      · rename_i b
        split at h
        · rename_i n hn
          obtain ⟨he, h1, h2⟩ := z1q (M := M) hn
          refine ⟨_, h, q1e fun σ Z a w hinv hops ht => ⟨_, q9l rfl, ?_⟩⟩
          obtain ⟨s, hs, hr, hw⟩ := h2 σ Z w (ht b.1 (by simp) he h1)
          have hv := q8e (hops x hmem _ (by rw [q2f, hx])) hs
          rcases hw with ⟨_, rfl, ad, q⟩ | ⟨rr, q1, q2, q3⟩
          · exact run a w e _ _ _ hu (hv.trans q)
          · exact run a w e _ _ _ hu (hv.trans q2)
        · cases h
      · rename_i b lo n
        obtain ⟨hal, h⟩ := q00 h
        obtain ⟨he, h1, h2⟩ := q5n (M := M) hal
        refine ⟨_, h, q1e fun σ Z a w hinv hops ht => ⟨_, q9l rfl, ?_⟩⟩
        obtain ⟨s, hs, _⟩ := h2 σ Z w (ht b.1 (by simp) he h1)
        rcases z6j (hops x hmem _ (by rw [q2f, hx])) hs with ⟨_, rfl, ad, q⟩ | ⟨rr, cap, off, q1, q, _⟩
        · exact run a w e _ _ _ hu q
        · exact run a w e _ _ _ hu q
      · rename_i ty xs
        refine ⟨_, h, q1e (rds := []) fun σ Z a w hinv hops _ => ⟨_, q9l rfl, ?_⟩⟩
        obtain ⟨ad, cap, hv, _⟩ := z1p (hops x hmem _ (by rw [q2f, hx]))
        exact run a w e _ _ _ hu hv
      · rename_i n cap
        refine ⟨_, h, q1e (rds := []) fun σ Z a w hinv hops _ => ⟨_, q9l rfl, ?_⟩⟩
        exact run a w e _ _ _ hu (q2x (hops x hmem _ (by rw [q2f, hx])))
      · cases h
    · rename_i hu
      split at h
      · rename_i s
        refine ⟨_, h, q1e (rds := []) fun σ Z a w hinv hops _ => ⟨_, q9l rfl, ?_⟩⟩
        have e1 : a.eval x = .string s := q2x (hops x hmem _ (by rw [q2f, hx]))
        simp [execOp, ho, resolve, hc, hargs', e1, invoke, builtin, Builtin.len_, ht0, run_underlying hu, goInt]
      · cases h
    · cases h
  · cases h
end Go.Proofs.YtdjkdmjdcdljmaaGreatDoorY
namespace Go.Proofs.YtdjkdmjdcdljmaaGreatDoorY
open Go.RowKit
variable {M : Cfg} {α : Type}
theorem z5g {S : St} {o : Oper} {t : TypeId} {cells : List V} (hone : cells.all V.one = true)
    (ho : ∀ (σ : Num) (Z : Zone) (a : Act) (w : World), (∀ x ∈ o.op.operands, ∀ v, S.fs.ev x = some v → RV M σ Z w v (a.eval x)) → ∃ cs' : Array Value, RVs M σ Z w cells cs'.toList ∧
      (execOp a.eval o).run M.P w = .ok (.value (.pointer (some ⟨w.heap.size, 0, none⟩))) { w with heap := w.heap.push (.cells cs' t) }) :
    Good M S.fs o { v := .ptr (S.heap.length, 0) 0 0, chg := [(S.heap.length, .cells t 0 cells)] } := by
  intro σ Z a w hinv hops _ hn K Q hK
  obtain ⟨cs', h1, h2⟩ := ho σ Z a w hops
  have hf := hn S.heap.length (by simp [fams]) (by simp [St.fs])
  have hle := le_new (f := one { whole := undef, real := some w.heap.size, cap := 0, row := 0 }) (w' := { w with heap := w.heap.push (.cells cs' t) }) hinv hf rfl
  refine q3a h2 (hK _ _ _ Z ?_ (z80 (s := { whole := undef, real := some w.heap.size, cap := 0, row := 0 }) hinv hf (o := .cells cs' t) rfl rfl rfl rfl rfl ?_))
  · simp only [RV, Num.q3c, one]
    exact ⟨_, rfl, by simp⟩
  · refine ⟨fun k => Num.q3c _ _ _ _, hone, cs'.toList, 0, h1.mono hle, _, Num.q3c _ _ _ _, rfl, (fun h => absurd rfl h), .inr ⟨w.heap.size, [], rfl, by simp, fun h => absurd rfl h⟩⟩
theorem z8u {S : St} {o : Oper} {t : TypeId} {cs : List V} (ho : o.op = .alloc t) (hz : zeroOf M t = some cs) : Good M S.fs o { v := .ptr (S.heap.length, 0) 0 0, chg := [(S.heap.length, .cells t 0 cs)] } := by
  obtain ⟨i, z, h1, h2, h3, h4⟩ := q4y hz
  refine z5g h3 fun σ Z a w _ => ⟨z.cells, h4 σ Z w, ?_⟩
  simp [execOp, ho, Instr.alloc, z41 h1 h2, newVar, newRow]
theorem j3y {S : St} {o : Oper} {t : TypeId} {x : Operand} {v : V} (ho : o.op = .box t x) (hx : S.ev x = some v) (h1 : v.isA = true) (h2 : v.cells.all V.one = true) : Good M S.fs o { v := .ptr (S.heap.length, 0) 0 0, chg := [(S.heap.length, .cells t 0 v.cells)] } := by
  refine z5g h2 fun σ Z a w hops => ⟨(a.eval x).cells, (hops x (by simp [ho, Op.operands]) v (by rw [q2f, hx])).cells h1, ?_⟩
  simp [execOp, ho, Instr.box, newVar, newRow]
theorem z1b {P : Program} {w : World} {v : Value} {j : Int} {y : Nat} {code : BoundsCode} (h : ∃ kd, v = .int kd j) (h0 : 0 ≤ j) (h1 : j ≤ y) : (Instr.sliceBound v y code).run P w = .ok j.toNat w := by
  obtain ⟨kd, rfl⟩ := h
  simp [Instr.sliceBound, asIntOf, h0, h1]
theorem j0z {S : St} {x : Option V} {d : Nat} {j : Int} (h : q73 x d = some j) : (x = none ∧ j = d) ∨ ∃ kd, x = some (.lf (.int kd j)) := by
  unfold q73 at h
  split at h
  · cases h; exact .inl ⟨rfl, rfl⟩
  · cases h; exact .inr ⟨_, rfl⟩
  · cases h
theorem slice_run {P : Program} {w : World} {t e : TypeId} {ti : TypeInfo} {ad : Option Addr} {n cap : Nat} {lo hi : Option Value} {l h : Int} (hu : P.underlying t = some (.slice e)) (hti : P.info? e = some ti)
    (hl : (lo = none ∧ l = 0) ∨ ∃ kd, lo = some (.int kd l)) (hh : (hi = none ∧ h = n) ∨ ∃ kd, hi = some (.int kd h)) (h0 : 0 ≤ l) (h1 : l ≤ h) (h2 : h ≤ n) (hcap : n ≤ cap) :
    (Instr.sliceAt t (.slice ad n cap) lo hi none).run P w = .ok (.slice (if cap = l.toNat then ad else ad.map (·.add (l.toNat * ti.size))) (h.toNat - l.toNat) (cap - l.toNat)) w := by
  have hb : (Instr.sliceBounds true n cap lo hi none).run P w = .ok (l.toNat, h.toNat, cap) w := by
    rcases hl with ⟨rfl, rfl⟩ | ⟨kd, rfl⟩ <;> rcases hh with ⟨rfl, rfl⟩ | ⟨kd', rfl⟩
    · simp [Instr.sliceBounds]
    · simp [Instr.sliceBounds, z1b ⟨_, rfl⟩ (show 0 ≤ h by omega) (show h ≤ cap by omega)]
    · have := z1b (P := P) (w := w) (code := .sliceB) ⟨kd, rfl⟩ h0 (show l ≤ (n : Int) by omega)
      simp [Instr.sliceBounds, this]
    · have := z1b (P := P) (w := w) (code := .sliceB) ⟨kd, rfl⟩ h0 (show l ≤ (h.toNat : Int) by omega)
      simp [Instr.sliceBounds, this, z1b ⟨_, rfl⟩ (show 0 ≤ h by omega) (show h ≤ cap by omega)]
  simp [Instr.sliceAt, Instr.slice, run_underlying hu, hb, q26 hti]
theorem opt_ops {S : St} {σ : Num} {Z : Zone} {w : World} {a : Act} {x : Option Operand} {u : Option V} {d : Nat} {j : Int} (hx : (x = none ∧ u = none) ∨ ∃ y v, x = some y ∧ S.ev y = some v ∧ u = some v) (hj : q73 u d = some j)
    (hops : ∀ y, x = some y → ∀ v, S.fs.ev y = some v → RV M σ Z w v (a.eval y)) : (x.map a.eval = none ∧ j = d) ∨ ∃ kd, x.map a.eval = some (.int kd j) := by
  rcases hx with ⟨rfl, rfl⟩ | ⟨y, v, rfl, hy, rfl⟩
  · simp only [q73, Option.some.injEq] at hj; exact .inl ⟨rfl, hj.symm⟩
  · rcases j0z (S := S) hj with ⟨h, _⟩ | ⟨kd, h⟩
    · cases h
    · simp only [Option.some.injEq] at h; subst h
      exact .inr ⟨kd, by simp [q2x (hops y rfl _ (by rw [q2f, hy]))]⟩
theorem q70 {S : St} {o : Oper} {t : TypeId} {x : Operand} {xl xh : Option Operand} {u : V} {lo hi : Option V} {k : Out → Option α} {r : α} (ho : o.op = .slice t x xl xh none) (hx : S.ev x = some u)
    (hl : (xl = none ∧ lo = none) ∨ ∃ y v, xl = some y ∧ S.ev y = some v ∧ lo = some v) (hh : (xh = none ∧ hi = none) ∨ ∃ y v, xh = some y ∧ S.ev y = some v ∧ hi = some v) (h : z2a M S t u lo hi k = some r) :
    ∃ out, k out = some r ∧ Good M S.fs o out := by
  have hmx : x ∈ o.op.operands := by simp [ho, Op.operands]
  have hml : ∀ y, xl = some y → y ∈ o.op.operands := fun y e => by simp [ho, Op.operands, e]
  have hmh : ∀ y, xh = some y → y ∈ o.op.operands := fun y e => by simp [ho, Op.operands, e]
  unfold z2a at h
  split at h
  · rename_i e hu
    split at h
    · rename_i ti hti
      have run : ∀ (σ : Num) (Z : Zone) (a : Act) (w : World) (l hq : Int) (ad : Option Addr) (n cap : Nat), (∀ x ∈ o.op.operands, ∀ v, S.fs.ev x = some v → RV M σ Z w v (a.eval x)) → a.eval x = .slice ad n cap → q73 lo 0 = some l → q73 hi n = some hq →
          0 ≤ l → l ≤ hq → hq ≤ n → n ≤ cap → (execOp a.eval o).run M.P w = .ok (.value (.slice (if cap = l.toNat then ad else ad.map (·.add (l.toNat * ti.size))) (hq.toNat - l.toNat) (cap - l.toNat))) w := by
        intro σ Z a w l hq ad n cap hops e1 hlo hhi h0 h1 h2 h3
        have g1 := opt_ops (M := M) (σ := σ) (Z := Z) (w := w) (a := a) hl hlo fun y e v hv => hops y (hml y e) v hv
        have g2 := opt_ops (M := M) (σ := σ) (Z := Z) (w := w) (a := a) hh hhi fun y e v hv => hops y (hmh y e) v hv
        have := slice_run (P := M.P) (w := w) (ad := ad) hu hti (g1.imp (fun h => ⟨h.1, by simpa using h.2⟩) id) g2 h0 h1 h2 h3
        simp [execOp, ho, e1, this]
      split at h
      · rename_i ty xs
        split at h
        · rename_i l hq hlo hhi
          obtain ⟨hc, h⟩ := q00 h
          simp only [Bool.and_eq_true, decide_eq_true_eq] at hc
          obtain ⟨⟨⟨h0, h1⟩, h2⟩, hsz⟩ := hc
          have hsz := Nat.eq_of_beq_eq_true hsz
          refine ⟨_, h, q1e (rds := []) fun σ Z a w hinv hops _ => ?_⟩
          obtain ⟨ad, cap, hv, hcap, hd⟩ := z1p (hops x hmx _ (by rw [q2f, hx]))
          refine ⟨_, ?_, run σ Z a w l hq ad xs.length cap hops hv hlo hhi h0 h1 h2 hcap⟩
          have hlen : ((xs.take hq.toNat).drop l.toNat).length = hq.toNat - l.toNat := by simp; omega
          simp only [RV, DV]
          refine ⟨_, cap - l.toNat, by rw [hlen], by rw [hlen]; omega, ?_⟩
          by_cases hemp : (xs.take hq.toNat).drop l.toNat = []
          · exact .inl hemp
          · right
            have hpos : 0 < hq.toNat - l.toNat := by rw [← hlen]; exact List.length_pos_iff.2 hemp
            rcases hd with rfl | ⟨b, off, cs, el, fr, pre, post, rows, rfl, k2, k3, k4, k5, k6⟩
            · simp at hemp
            · have hrl := k6.length
              rw [if_neg (by omega)]
              refine ⟨b, off + l.toNat * ti.size, cs, el, fr, pre ++ (rows.take l.toNat).flatten, (rows.drop hq.toNat).flatten ++ post, (rows.take hq.toNat).drop l.toNat, by simp [q6p], k2, k3, ?_, ?_, (k6.take _).drop _⟩
              · rw [k4]
                have e1 : rows = rows.take l.toNat ++ ((rows.take hq.toNat).drop l.toNat ++ rows.drop hq.toNat) := by
                  have e2 : rows.take l.toNat = (rows.take hq.toNat).take l.toNat := by rw [List.take_take, Nat.min_eq_left (by omega)]
                  rw [← List.append_assoc, e2, List.take_append_drop, List.take_append_drop]
                conv => lhs; rw [e1]
                simp
              · rw [List.length_append, k5, q07 (DVs.len k6) (by omega), hsz]
        · cases h
      · rename_i b
        split at h
        · rename_i n hn
          split at h
          · rename_i l hq hlo hhi
            obtain ⟨hc, h⟩ := q00 h
            simp only [Bool.and_eq_true, decide_eq_true_eq] at hc
            obtain ⟨⟨⟨hsz, h0⟩, h1⟩, h2⟩ := hc
            have hsz := Nat.eq_of_beq_eq_true hsz
            obtain ⟨he, g1, g2⟩ := z1q (M := M) hn
            refine ⟨_, h, q1e fun σ Z a w hinv hops ht => ?_⟩
            obtain ⟨s, hs, hr, hw⟩ := g2 σ Z w (ht b.1 (by simp) he g1)
            have hv := q8e (hops x hmx _ (by rw [q2f, hx])) hs
            rcases hw with ⟨q0, rfl, ad, q⟩ | ⟨rr, q1, q2, q3⟩
            · refine ⟨_, ?_, run σ Z a w l hq ad 0 0 hops (hv.trans q) hlo hhi h0 h1 h2 (Nat.le_refl _)⟩
              simp only [RV, hs]
              have hl0 : l.toNat = 0 := by omega
              have hh0 : hq.toNat = 0 := by omega
              exact .inl ⟨q0, by omega, by rw [hl0, hh0, q]; simp, ad, by rw [hl0, hh0]; simp⟩
            · refine ⟨_, ?_, run σ Z a w l hq _ n s.cap hops (hv.trans q2) hlo hhi h0 h1 h2 q3⟩
              simp only [RV, hs]
              right
              by_cases hcl : s.cap = l.toNat
              · rw [if_pos hcl]
                refine ⟨rr, _, 0, q1, rfl, by omega, .inl (by omega), fun hl0 => ⟨by omega, rfl⟩⟩
              · rw [if_neg hcl]
                refine ⟨rr, s.cap - l.toNat, l.toNat * ti.size, q1, by simp [q6p], by omega, .inr (by rw [hr, hsz]), fun hl0 => ⟨by omega, by rw [hl0]; simp⟩⟩
          · cases h
        · cases h
      · rename_i b l0 n
        split at h
        · rename_i l hq hlo hhi
          obtain ⟨hc, h⟩ := q00 h
          simp only [Bool.and_eq_true, decide_eq_true_eq] at hc
          obtain ⟨⟨⟨⟨hal, hsz⟩, h0⟩, h1⟩, h2⟩ := hc
          have hsz := Nat.eq_of_beq_eq_true hsz
          obtain ⟨he, g1, g2⟩ := q5n (M := M) hal
          refine ⟨_, h, q1e fun σ Z a w hinv hops ht => ?_⟩
          obtain ⟨s, hs, hr⟩ := g2 σ Z w (ht b.1 (by simp) he g1)
          rcases z6j (hops x hmx _ (by rw [q2f, hx])) hs with ⟨q0, rfl, ad, q⟩ | ⟨rr, cap, off, q1, q, q3, q4, q5⟩
          · refine ⟨_, ?_, run σ Z a w l hq ad 0 0 hops q hlo hhi h0 h1 h2 (Nat.le_refl _)⟩
            simp only [RV, hs]
            have hl0 : l.toNat = 0 := by omega
            have hh0 : hq.toNat = 0 := by omega
            have qw := sub_whole (hops x hmx _ (by rw [q2f, hx])) hs q0
            exact .inl ⟨q0, by omega, by rw [← qw, q, hl0, hh0]; simp, ad, by rw [hl0, hh0]; simp⟩
          · refine ⟨_, ?_, run σ Z a w l hq _ n cap hops q hlo hhi h0 h1 h2 q3⟩
            simp only [RV, hs]
            right
            by_cases hcl : cap = l.toNat
            · rw [if_pos hcl]
              refine ⟨rr, _, off, q1, rfl, by omega, .inl (by omega), fun hl0 => ?_⟩
              obtain ⟨p1, p2⟩ := q5 (by omega)
              exact ⟨by omega, p2⟩
            · rw [if_neg hcl]
              refine ⟨rr, cap - l.toNat, off + l.toNat * ti.size, q1, by simp [q6p], by omega, ?_, fun hl0 => ?_⟩
              · rcases q4 with q4 | q4
                · exact .inl (by omega)
                · exact .inr (by rw [q4, hr, hsz, Nat.add_mul])
              · obtain ⟨p1, p2⟩ := q5 (by omega)
                have : l.toNat = 0 := by omega
                exact ⟨by omega, by rw [this, p2]; simp⟩
        · cases h
      · rename_i n c
        split at h
        · rename_i l hq hlo hhi
          obtain ⟨hc, h⟩ := q00 h
          simp only [Bool.and_eq_true, decide_eq_true_eq] at hc
          obtain ⟨rfl, rfl⟩ := hc
          refine ⟨_, h, q1e (rds := []) fun σ Z a w hinv hops _ => ?_⟩
          have hv := hops x hmx _ (by rw [q2f, hx])
          exact ⟨_, q9l rfl, by simpa using run σ Z a w 0 0 none 0 0 hops (q2x hv) hlo hhi (by omega) (by omega) (by omega) (by omega)⟩
        · cases h
      · cases h
    · cases h
  · cases h
theorem j12 : ∀ (l : List Value) (i off : Nat) (vs : Array Value), off + i + l.length ≤ vs.size →
    ((l.zipIdx i).foldl (fun cs (c, j) => cs.setIfInBounds (off + j) c) vs).toList = vs.toList.take (off + i) ++ (l ++ vs.toList.drop (off + i + l.length))
  | [], i, off, vs, h => by simp
  | v :: l, i, off, vs, h => by
    simp only [List.zipIdx_cons, List.foldl_cons, List.length_cons] at h ⊢
    rw [j12 l (i + 1) off _ (by simp; omega)]
    have hlt : off + i < vs.toList.length := by simp; omega
    simp only [Array.toList_setIfInBounds]
    rw [show off + (i + 1) = off + i + 1 by omega, List.take_succ_eq_append_getElem (by simpa using hlt)]
    simp only [List.getElem_set_self, List.append_assoc, List.cons_append, List.nil_append]
    rw [List.take_set_of_le (Nat.le_refl _), List.drop_set_of_lt (by omega)]
    have : off + i + 1 + l.length = off + i + (l.length + 1) := by omega
    rw [this]
theorem z1y {σ : Num} {Z : Zone} {w : World} {place : Nat → Option (Nat × Nat)} {S : St} {a : Act} : ∀ {parts : List (Nat × Operand)} {cs us : List V} {vs : Array Value}, j0m place (parts.map fun p => (p.1, S.ev p.2)) cs = some us → cs.all V.one = true → RVs M σ Z w cs vs.toList →
    (∀ p ∈ parts, ∀ v, S.fs.ev p.2 = some v → RV M σ Z w v (a.eval p.2)) → us.all V.one = true ∧ ∃ vs' : Array Value, Instr.fill place vs (parts.map fun p => (p.1, a.eval p.2)) = some vs' ∧ RVs M σ Z w us vs'.toList
  | [], cs, us, vs, h, h1, h2, _ => by simp [j0m] at h; subst h; exact ⟨h1, vs, rfl, h2⟩
  | (i, x) :: parts, cs, us, vs, h, h1, h2, hv => by
    simp only [List.map_cons] at h ⊢
    cases hx : S.ev x with
    | none => simp [hx, j0m] at h
    | some v =>
      simp only [hx, j0m] at h
      split at h
      · rename_i off n hp
        obtain ⟨hc, h⟩ := q00 h
        simp only [Bool.and_eq_true] at hc
        obtain ⟨⟨c1, c2⟩, c3⟩ := hc
        have c2 := Nat.eq_of_beq_eq_true c2
        split at h
        · rename_i cs' hcs
          obtain ⟨p1, rfl⟩ := z4j hcs
          have hcells := (hv (i, x) (by simp) v (by rw [q2f, hx])).cells c1
          have hl := hcells.length
          have hl2 := h2.length
          have hone : (cs.take off ++ (v.cells ++ cs.drop (off + v.cells.length))).all V.one = true := by
            rw [List.all_eq_true] at h1 c3 ⊢
            intro y hy
            rcases List.mem_append.1 hy with hy | hy
            · exact h1 y (List.mem_of_mem_take hy)
            · rcases List.mem_append.1 hy with hy | hy
              · exact c3 y hy
              · exact h1 y (List.mem_of_mem_drop hy)
          have hfold : (((a.eval x).cells.zipIdx.foldl (fun cs (c, j) => cs.setIfInBounds (off + j) c) vs)).toList = vs.toList.take off ++ ((a.eval x).cells.toList ++ vs.toList.drop (off + v.cells.length)) := by
            have := j12 (a.eval x).cells.toList 0 off vs (by simp at hl hl2 ⊢; omega)
            simp only [Nat.add_zero] at this
            rw [hl, ← this]
            congr 1
            rw [← Array.foldl_toList, Array.toList_zipIdx]
          obtain ⟨g1, vs', g2, g3⟩ := z1y (vs := (a.eval x).cells.zipIdx.foldl (fun cs (c, j) => cs.setIfInBounds (off + j) c) vs) h hone (by rw [hfold]; exact (h2.take off).append (hcells.append (h2.drop _))) fun p hp => hv p (by simp [hp])
          refine ⟨g1, vs', ?_, g3⟩
          simp only [Instr.fill, hp]
          have e1 : (a.eval x).cells.size = n := by simp at hl; omega
          have e2 : ¬ (off + (a.eval x).cells.size > vs.size) := by simp at hl hl2; omega
          have e3 : (decide ((a.eval x).cells.size ≠ n) || decide (off + (a.eval x).cells.size > vs.size)) = false := by
            simp only [Bool.or_eq_false_iff, decide_eq_false_iff_not]
            exact ⟨fun h => h e1, e2⟩
          simp only [e3]
          exact g2
        · cases h
      · cases h
end Go.Proofs.YtdjkdmjdcdljmaaGreatDoorY
namespace Go.Proofs.YtdjkdmjdcdljmaaGreatDoorY
open Go.RowKit
variable {M : Cfg} {α : Type}
theorem z5w {w : World} : ∀ {l : List Field} {ps : List (Nat × Nat)}, placesOf M l = some ps → ((l.mapM fun f => do pure (f.offset, ← sizeOf f.type) : Sem (List (Nat × Nat)))).run M.P w = .ok ps w
  | [], ps, h => by simp [placesOf] at h; subst h; simp
  | f :: l, ps, h => by
    simp only [placesOf] at h
    split at h
    · rename_i i l' hi hl
      cases h
      simp only [List.mapM_cons, Sem.run_bind, q26 hi, Result.andThen_ok, Sem.run_pure, z5w hl]
    · cases h
theorem z89 {S : St} {o : Oper} {t : TypeId} {parts : Array (Nat × Operand)} {k : Out → Option α} {r : α} (ho : o.op = .build t parts) (h : j09 M S t parts.toList k = some r) : ∃ out, k out = some r ∧ Good M S.fs o out := by
  have hmem : ∀ p ∈ parts.toList, p.2 ∈ o.op.operands := fun p hp => by
    simp only [ho, Op.operands]; simp; exact ⟨p.1, by simpa using hp⟩
  unfold j09 at h
  split at h
  · rename_i fs z hu hz
    obtain ⟨i, zv, h1, h2, h3, h4⟩ := q4y hz
    split at h
    · rename_i ps hps
      split at h
      · rename_i cs hcs
        refine ⟨_, h, q1e (rds := []) fun σ Z a w hinv hops _ => ?_⟩
        obtain ⟨g1, vs', g2, g3⟩ := z1y hcs h3 (h4 σ Z w) fun p hp v hv => hops p.2 (hmem p hp) v hv
        refine ⟨.agg vs', by simp only [RV]; exact ⟨_, rfl, g1, g3⟩, ?_⟩
        have hpl : (fs.mapM fun f => do pure (f.offset, ← sizeOf f.type) : Sem (Array (Nat × Nat))).run M.P w = .ok ps.toArray w := by
          rw [← Array.toArray_toList (xs := fs), List.mapM_toArray, map_eq_pure_bind, Sem.run_bind, z5w hps]
          rfl
        have e1 : (parts.map fun (i, x) => (i, a.eval x)).toList = parts.toList.map fun p => (p.1, a.eval p.2) := by simp
        have e2 : (fun (i : Nat) => (ps.toArray[i]? : Option (Nat × Nat))) = fun (i : Nat) => ps[i]? := by funext i; simp
        simp only [execOp, ho, Instr.build, Sem.run_bind, z41 h1 h2, run_underlying hu, Result.andThen_ok, hpl, e1, e2, g2, Sem.run_pure]
      · cases h
    · cases h
  · rename_i n e z hu hz
    obtain ⟨i, zv, h1, h2, h3, h4⟩ := q4y hz
    split at h
    · rename_i ti hti
      split at h
      · rename_i cs hcs
        refine ⟨_, h, q1e (rds := []) fun σ Z a w hinv hops _ => ?_⟩
        obtain ⟨g1, vs', g2, g3⟩ := z1y hcs h3 (h4 σ Z w) fun p hp v hv => hops p.2 (hmem p hp) v hv
        refine ⟨.agg vs', by simp only [RV]; exact ⟨_, rfl, g1, g3⟩, ?_⟩
        have e1 : (parts.map fun (i, x) => (i, a.eval x)).toList = parts.toList.map fun p => (p.1, a.eval p.2) := by simp
        simp only [execOp, ho, Instr.build, Sem.run_bind, z41 h1 h2, run_underlying hu, Result.andThen_ok, q26 hti, e1, g2, Sem.run_pure]
      · cases h
    · cases h
  · cases h
theorem z2d {S : St} {size : Nat} {σ : Num} {Z : Zone} {w : World} {a : Act} : ∀ {parts : List (Nat × Operand)} {i : Nat} {cs : List V}, z1s size i (parts.map fun p => (p.1, S.ev p.2)) = some cs →
    (∀ p ∈ parts, ∀ v, S.fs.ev p.2 = some v → RV M σ Z w v (a.eval p.2)) →
    (parts.map fun p => (p.1, a.eval p.2)) = ((parts.map fun p => a.eval p.2).zipIdx i).map (fun x => (x.2, x.1)) ∧ (∀ v ∈ parts.map (fun p => a.eval p.2), v.cells.size = size) ∧ cs.all V.one = true ∧ cs.length = parts.length * size ∧
      RVs M σ Z w cs ((parts.map fun p => a.eval p.2).flatMap fun v => v.cells.toList)
  | [], i, cs, h, _ => by simp [z1s] at h; subst h; simp [RVs]
  | (j, x) :: parts, i, cs, h, hv => by
    simp only [List.map_cons] at h
    cases hx : S.ev x with
    | none => simp [hx, z1s] at h
    | some v =>
      simp only [hx, z1s] at h
      obtain ⟨hc, h⟩ := q00 h
      simp only [Bool.and_eq_true] at hc
      obtain ⟨⟨⟨c1, c2⟩, c3⟩, c4⟩ := hc
      split at h
      · rename_i vs hvs
        cases h
        obtain ⟨h1, h2, h3, h4, h5⟩ := z2d (a := a) (σ := σ) (Z := Z) (w := w) hvs fun p hp => hv p (by simp [hp])
        have hr := (hv (j, x) (by simp) v (by rw [q2f, hx])).cells c2
        have hlen : v.cells.length = (a.eval x).cells.toList.length := hr.length
        have e := Nat.eq_of_beq_eq_true c1
        have el := Nat.eq_of_beq_eq_true c3
        subst e
        refine ⟨by simp [List.zipIdx_cons, h1], fun u hu => ?_, ?_, ?_, ?_⟩
        · rw [List.map_cons] at hu
          rcases List.mem_cons.1 hu with rfl | hu
          · show (a.eval x).cells.size = size
            simp at hlen; omega
          · exact h2 u hu
        · rw [List.all_append, c4, h3]; rfl
        · rw [List.length_append, h4, el, List.length_cons, Nat.add_mul, Nat.one_mul, Nat.add_comm]
        · simp only [List.map_cons, List.flatMap_cons]
          exact hr.append h5
      · cases h
theorem z60 {σ : Num} {Z : Zone} {w w' : World} {F n cap : Nat} {he : HE} {cs : Array Value} {e : TypeId} {row : Nat} (hinv : Inv σ Z w) (hf : ∀ k, σ F k = .fresh) (hh : w'.heap = w.heap.push (.cells cs e)) (h1 : w'.os = w.os) (h2 : w'.tape = w.tape) (h3 : w'.output = w.output)
    (hr : ∀ σ' : Num, Le σ Z w σ' Z w' → (∀ k, σ' F (k + 1) = .dead) → σ' F 0 = .alive { whole := .slice (some ⟨w.heap.size, 0, none⟩) n cap, real := some w.heap.size, cap := cap, row := row } → HER M σ' Z w' F he) :
    RV M (σ.upd F (one { whole := .slice (some ⟨w.heap.size, 0, none⟩) n cap, real := some w.heap.size, cap := cap, row := row })) Z w' (.own (F, 0)) (.slice (some ⟨w.heap.size, 0, none⟩) n cap) ∧
      q4a M σ Z w (σ.upd F (one { whole := .slice (some ⟨w.heap.size, 0, none⟩) n cap, real := some w.heap.size, cap := cap, row := row })) Z w' [(F, he)] := by
  refine ⟨?_, z80 hinv hf hh h1 h2 h3 rfl (hr _ (le_new hinv hf hh) (fun k => Num.q3c _ _ _ _) (Num.q3c _ _ _ _))⟩
  simp only [RV, Num.q3c, one]
  exact ⟨by trivial, rfl⟩
theorem z2b {S : St} {o : Oper} {t : TypeId} {len : Nat} {parts : Array (Nat × Operand)} {k : Out → Option α} {r : α} (ho : o.op = .buildSlice t len parts) (h : q88 M S t len parts.toList k = some r) :
    ∃ out, k out = some r ∧ Good M S.fs o out := by
  have hmem : ∀ p ∈ parts.toList, p.2 ∈ o.op.operands := fun p hp => by
    simp only [ho, Op.operands]; simp; exact ⟨p.1, by simpa using hp⟩
  unfold q88 at h
  split at h
  · rename_i e hu
    split at h
    · rename_i ti z hti hz
      obtain ⟨i, zv, z1, z2, z3, z4⟩ := q4y hz
      rw [hti] at z1
      cases z1
      split at h
      · rename_i cs hcs
        obtain ⟨hc, h⟩ := q00 h
        simp only [Bool.and_eq_true] at hc
        obtain ⟨⟨⟨c1, c2⟩, c3⟩, c4⟩ := hc
        have c1 := Nat.eq_of_beq_eq_true c1
        have c2 : 0 < ti.size := Nat.le_of_ble_eq_true c2
        have c3 := Nat.le_of_ble_eq_true c3
        have c4 := Nat.eq_of_beq_eq_true c4
        refine ⟨_, h, fun σ Z a w hinv hops _ hn K Q hK => ?_⟩
        have hf := hn S.heap.length (by simp [fams]) (by simp [St.fs])
        obtain ⟨p1, p2, p3, p4, p5⟩ := z2d (M := M) (a := a) (σ := σ) (Z := Z) (w := w) hcs fun p hp v hv => hops p.2 (hmem p hp) v hv
        have hzs : zv.cells.size = ti.size := by rw [← c4, (z4 σ Z w).length]; simp
        have hcl : ((parts.toList.map fun p => a.eval p.2).flatMap fun v => v.cells.toList).length = len * ti.size := by rw [← p5.length, p4, c1]
        have hlm : len ≤ maxLen := by
          have : len ≤ len * ti.size := Nat.le_mul_of_pos_right _ c2
          simp only [maxLen]; omega
        have key : ∀ (cells : Array Value), cells.toList = ((parts.toList.map fun p => a.eval p.2).flatMap fun v => v.cells.toList) →
            K (a.put o.dst (.slice (some ⟨w.heap.size, 0, none⟩) len len)) (w.alloc (.cells cells e)) := fun cells hcells => by
          have hH : ∀ σ' : Num, Le σ Z w σ' Z (w.alloc (.cells cells e)) → (∀ k, σ' S.heap.length (k + 1) = .dead) → σ' S.heap.length 0 = .alive { whole := .slice (some ⟨w.heap.size, 0, none⟩) len len, real := some w.heap.size, cap := len, row := ti.size } →
              HER M σ' Z (w.alloc (.cells cells e)) S.heap.length (.cells e ti.size cs) := by
            intro σ' hle hd h0
            refine ⟨hd, p3, cells.toList, len, (by rw [hcells]; exact p5.mono hle), _, h0, rfl, (fun _ => by rw [hcells]; exact hcl), .inr ⟨w.heap.size, [], rfl, ?_, fun _ => ⟨hlm, by simpa [hcells] using hcl, rfl⟩⟩⟩
            show (w.heap.push _)[w.heap.size]? = _
            simp
          obtain ⟨q1, q2⟩ := z60 (M := M) (F := S.heap.length) (n := len) (cap := len) (cs := cells) (e := e) (row := ti.size) (w' := w.alloc (.cells cells e)) hinv hf rfl rfl rfl rfl hH
          exact hK _ _ _ Z q1 q2
        by_cases hl0 : len = 0
        · subst hl0
          have hp0 : parts = #[] := by rw [← Array.toList_inj]; exact List.length_eq_zero_iff.1 c1
          refine q3a (w' := w.alloc (.cells #[] e)) ?_ (key #[] (by simp [hp0]))
          simp [execOp, ho, hp0, Instr.buildSlice, run_underlying hu, q26 hti, Instr.fill, newRow, Array.range_zero']
        · have hfill := Great.fill_whole c2 (parts.toList.map fun p => a.eval p.2) ((Array.range (len * ti.size)).map (zv.cells[· % zv.cells.size]!)) p2 (by simp [c1])
          rw [← p1] at hfill
          have hpos : 0 < len * ti.size := Nat.mul_pos (by omega) c2
          exact wp_buildSlice t e len parts ho _ ti zv hu hti z2 (by omega) (by omega) (by simpa using hfill) (key _ (by simp))
      · cases h
    · cases h
  · cases h
theorem q99 (z : Array Value) (n size : Nat) (hz : z.size = size) (hs : 0 < size) : (madeCells z (n * size)).toList = (List.replicate n z.toList).flatten := by
  apply List.ext_getElem?
  intro i
  simp only [madeCells, Array.toList_map, Array.toList_range, List.getElem?_map]
  by_cases hi : i < n * size
  · rw [List.getElem?_range hi]
    have h1 : i / size < n := (Nat.div_lt_iff_lt_mul hs).2 hi
    have e : (List.replicate n z.toList)[i / size]? = some z.toList := by simp [h1]
    rw [q7j e]
    have hl : ((List.replicate n z.toList).take (i / size)).flatten.length = i / size * size := q07 (fun r hr => by rw [List.eq_of_mem_replicate hr]; simpa using hz) (by simp; omega)
    have hm := Nat.div_add_mod i size
    have hlt : i % size < size := Nat.mod_lt _ hs
    rw [List.getElem?_append_right (by rw [hl, Nat.mul_comm]; omega), hl]
    have e2 : i - i / size * size = i % size := by rw [Nat.mul_comm]; omega
    rw [e2, List.getElem?_append_left (by simpa [hz] using hlt)]
    simp [hz, hlt]
  · rw [List.getElem?_eq_none (by simpa using hi), List.getElem?_eq_none]
    · rfl
    · have : ((List.replicate n z.toList)).flatten.length = n * size := by simp [hz]
      omega
theorem j2m {σ : Num} {Z : Zone} {w : World} {t : Ty} {fs : List Nat} {x : t.I} {row : List Value} (h : RVs M σ Z w (t.cells fs x) row) : ∀ n, q3f M σ Z w t fs (List.replicate n x) (List.replicate n row)
  | 0 => trivial
  | n + 1 => ⟨h, j2m h n⟩
theorem z2w {S : St} {o : Oper} {t : TypeId} {xl xc : Operand} {l c : Value} {k : Out → Option α} {r : α} (ho : o.op = .makeSlice t xl xc) (hl : S.ev xl = some (.lf l)) (hc : S.ev xc = some (.lf c)) (h : z0o M S t l c k = some r) :
    ∃ out, k out = some r ∧ Good M S.fs o out := by
  unfold z0o at h
  split at h
  · rename_i e hu
    split at h
    · rename_i ti z ty kd n kd' m hti hz hty
      obtain ⟨i, zv, z1, z2, z3, z4⟩ := q4y hz
      rw [hti] at z1
      cases z1
      split at h
      · rename_i x hx
        obtain ⟨hb, h'⟩ := q00 h
        clear h
        simp only [Bool.and_eq_true, decide_eq_true_eq] at hb
        obtain ⟨⟨⟨⟨⟨c1, c2⟩, c3⟩, c4⟩, c5⟩, c6⟩ := hb
        replace c3 := eq_of_beq c3
        subst c3
        have c4 : 0 < ti.size := Nat.le_of_ble_eq_true c4
        have c5 := Nat.eq_of_beq_eq_true c5
        have c6 := Nat.le_of_ble_eq_true c6
        refine ⟨_, h', fun σ Z a w hinv hops _ hn K Q hK => ?_⟩
        have hf := hn S.heap.length (by simp [fams]) (by simp [St.fs])
        have e1 : a.eval xl = .int kd n := q2x (hops xl (by simp [ho, Op.operands]) _ (by rw [q2f, hl]))
        have e2 : a.eval xc = .int kd' n := q2x (hops xc (by simp [ho, Op.operands]) _ (by rw [q2f, hc]))
        have hbytes : (ti.bytes : Int) * n ≤ 281474976710656 := by
          have q1 : (ti.bytes : Int) ≤ 10000000 := by omega
          have : (ti.bytes : Int) * n ≤ 10000000 * 4000000 := Int.mul_le_mul q1 c2 c1 (by omega)
          omega
        have hrun := run_make (P := M.P) w t e ti zv hu hti z2 kd kd' n n c1 (Int.le_refl _) hbytes (by omega)
        have hzs : zv.cells.size = ti.size := by rw [← c5, (z4 σ Z w).length]; simp
        have hts : ty.size = ti.size := by
          have := (Ty.z09 hx (z4 σ Z w)).length
          rw [Ty.q40] at this
          rw [this]; simpa using hzs
        have hcells := q99 zv.cells n.toNat ti.size hzs c4
        have hH : ∀ σ' : Num, Le σ Z w σ' Z (w.alloc (.cells (madeCells zv.cells (n.toNat * ti.size)) e)) → (∀ k, σ' S.heap.length (k + 1) = .dead) → σ' S.heap.length 0 = .alive { whole := .slice (some ⟨w.heap.size, 0, none⟩) n.toNat n.toNat, real := some w.heap.size, cap := n.toNat, row := ty.size } →
            HER M σ' Z (w.alloc (.cells (madeCells zv.cells (n.toNat * ti.size)) e)) S.heap.length (.list e ty [] (List.replicate n.toNat x)) := by
          intro σ' hle hd h0
          refine ⟨hd, List.replicate n.toNat zv.cells.toList, ?_, _, h0, rfl, (fun _ => ?_), .inr ⟨w.heap.size, [], rfl, ?_, fun _ => ⟨?_, ?_, ?_⟩⟩⟩
          · exact j2m (Ty.z09 hx ((z4 σ Z w).mono hle)) _
          · simp [hzs, hts]
          · rw [← hcells]; show (w.heap.push _)[w.heap.size]? = _; simp
          · simp only [maxLen]; omega
          · simp [hzs, hts]
          · simp
        obtain ⟨q1, q2⟩ := z60 (M := M) (F := S.heap.length) (n := n.toNat) (cap := n.toNat) (cs := madeCells zv.cells (n.toNat * ti.size)) (e := e) (row := ty.size) (w' := w.alloc (.cells (madeCells zv.cells (n.toNat * ti.size)) e)) hinv hf rfl rfl rfl rfl hH
        refine q3a ?_ (hK _ _ _ Z q1 q2)
        simp [execOp, ho, e1, e2, hrun]
      · cases h
    · cases h
  · cases h
end Go.Proofs.YtdjkdmjdcdljmaaGreatDoorY
namespace Go.Proofs.YtdjkdmjdcdljmaaGreatDoorY
open Go.RowKit
variable {M : Cfg} {α : Type}
def Num.kill (σ : Num) (ks : List Nat) : Num := fun G k => if G ∈ ks then .dead else σ G k
theorem j21 {σ : Num} {Z : Zone} {w w' : World} {F : Nat} {he : HE} {s : Slot} {ks : List Nat} (hi : Inv σ Z w) (hk : ∀ G ∈ ks, ∀ k, σ G k ≠ .fresh) (hf : ∀ k, σ F k = .fresh) (h1 : w'.os = w.os) (h2 : w'.tape = w.tape) (h3 : w'.output = w.output)
    (hsz : w.heap.size ≤ w'.heap.size) (hblk : ∀ r, r < w.heap.size → ¬ ownT σ ks r → w'.heap[r]? = w.heap[r]?) (hs : ∀ r, s.real = some r → r < w'.heap.size ∧ (ownT σ ks r ∨ w.heap.size ≤ r))
    (hr : Le σ Z w ((σ.kill ks).upd F (one s)) Z w' → HER M ((σ.kill ks).upd F (one s)) Z w' F he) : q4a M σ Z w ((σ.kill ks).upd F (one s)) Z w' (ks.map (fun G => (G, HE.dead)) ++ [(F, he)]) := by
  have hFk : F ∉ ks := fun h => hk F h 0 (hf 0)
  have hreal : ∀ G k r, ((σ.kill ks).upd F (one s)).real G k r → (G = F ∧ k = 0 ∧ s.real = some r) ∨ (G ≠ F ∧ G ∉ ks ∧ σ.real G k r) := by
    intro G k r ⟨s', e1, e2⟩
    by_cases e : G = F
    · subst e
      rw [Num.q3c] at e1
      cases k with
      | zero => simp only [one, Status.alive.injEq] at e1; subst e1; exact .inl ⟨rfl, rfl, e2⟩
      | succ k => cases e1
    · rw [Num.q7w e] at e1
      unfold Num.kill at e1
      split at e1
      · cases e1
      · rename_i hG; exact .inr ⟨e, hG, s', e1, e2⟩
  have hfam : fams (ks.map (fun G => (G, HE.dead)) ++ [(F, he)]) = ks ++ [F] := by simp [fams, Function.comp_def]
  have hown : ∀ r, ownT σ (ks ++ [F]) r ↔ ownT σ ks r := by
    intro r
    constructor
    · rintro ⟨G, hG, k, hq⟩
      rcases List.mem_append.1 hG with hG | hG
      · exact ⟨G, hG, k, hq⟩
      · simp at hG; subst hG
        obtain ⟨s', e, _⟩ := hq
        rw [hf k] at e; cases e
    · rintro ⟨G, hG, k, hq⟩; exact ⟨G, by simp [hG], k, hq⟩
  have hst : ∀ G k, StLe (σ G k) (((σ.kill ks).upd F (one s)) G k) := by
    intro G k
    by_cases e : G = F
    · subst e; rw [hf]; exact .born _
    · rw [Num.q7w e]
      unfold Num.kill
      split
      · rename_i hG
        have := hk G hG k
        cases h : σ G k with
        | fresh => exact absurd h this
        | dead => exact .same _
        | alive s => exact .died s
      · exact .same _
  have hle : Le σ Z w ((σ.kill ks).upd F (one s)) Z w' := ⟨hst, fun _ h => h, fun r hz => hblk r (hi.zlt r hz) fun ho => hi.off r ho.own hz⟩
  refine ⟨h1, h2, h3, hsz, hst, fun G hG k => ?_, fun _ h => h, fun _ h => .inl h, fun r hr hn => hblk r hr ?_, fun G k r hG hr' => ?_, ⟨fun G k G' k' r a b => ?_, fun r ⟨G, k, hr'⟩ => ?_, fun r hz => by have := hi.zlt r hz; omega, fun r ⟨G, k, hr'⟩ hz => ?_, hi.glob.keep (fun _ h => h) fun r hz => hblk r (hi.zlt r hz) fun ho => hi.off r ho.own hz⟩, fun G he' hG => ?_⟩
  · rw [hfam] at hG
    simp at hG
    rw [Num.q7w hG.2]
    exact if_neg hG.1
  · rw [hfam] at hn; rw [hown] at hn; exact hn
  · rw [hfam, hown]
    rcases hreal G k r hr' with ⟨_, _, e⟩ | ⟨e1, e2, _⟩
    · exact (hs r e).2
    · rw [hfam] at hG; simp at hG; rcases hG with hG | hG
      · exact absurd hG e2
      · exact absurd hG e1
  · have cross : ∀ G k r, s.real = some r → G ∉ ks → σ.real G k r → False := by
      intro G k r e hG a
      rcases (hs r e).2 with ⟨G', hG', k', b⟩ | h
      · obtain ⟨rfl, _⟩ := hi.inj _ _ _ _ r a b; exact hG hG'
      · have := hi.lt r ⟨_, _, a⟩; omega
    rcases hreal G k r a with ⟨rfl, rfl, e⟩ | ⟨e, e2, a'⟩ <;> rcases hreal G' k' r b with ⟨rfl, rfl, e'⟩ | ⟨e', e2', b'⟩
    · exact ⟨rfl, rfl⟩
    · exact (cross _ _ r e e2' b').elim
    · exact (cross _ _ r e' e2 a').elim
    · exact hi.inj _ _ _ _ r a' b'
  · rcases hreal G k r hr' with ⟨_, _, e⟩ | ⟨_, _, a⟩
    · exact (hs r e).1
    · have := hi.lt r ⟨_, _, a⟩; omega
  · rcases hreal G k r hr' with ⟨_, _, e⟩ | ⟨_, _, a⟩
    · rcases (hs r e).2 with h | h
      · exact hi.off r h.own hz
      · have := hi.zlt r hz; omega
    · exact hi.off r ⟨_, _, a⟩ hz
  · rcases List.mem_append.1 hG with hG | hG
    · obtain ⟨G', hG', e⟩ := List.mem_map.1 hG
      cases e
      intro k
      rw [Num.q7w (fun e => hFk (by rw [← e]; exact hG'))]
      exact if_pos hG'
    · simp at hG; obtain ⟨rfl, rfl⟩ := hG; exact hr hle
theorem Ty.q94 (fs : List Nat) : ∀ (t : Ty) (x : t.I), t.free = true → t.cells fs x = t.cells [] x
  | .int _, _, _ | .bool, _, _ | .str, _, _ | .err, _, _ | .slice _, _, _ | .ptr _, _, _ => rfl
  | .own _, _, h => by cases h
  | .pair a b, x, h => by
    simp only [Ty.free, Bool.and_eq_true] at h
    simp only [Ty.cells, Ty.q94 fs a x.1 h.1, Ty.q94 fs b x.2 h.2]
theorem q3f.j1a {σ : Num} {Z : Zone} {w : World} {t : Ty} {fs fs' : List Nat} {xs : List t.I} {rows : List (List Value)} (h : q3f M σ Z w t fs xs rows) (hf : t.free = true) : q3f M σ Z w t fs' xs rows :=
  All2.mono (fun x row _ hr => by rw [Ty.q94 fs' t x hf, ← Ty.q94 fs t x hf]; exact hr) h
def SrcR (M : Cfg) (σ : Num) (Z : Zone) (w : World) (t : Ty) (fs : List Nat) (ys : List t.I) (v' : Value) : Prop :=
  ∃ a cap rows, v' = .slice a ys.length cap ∧ q3f M σ Z w t fs ys rows ∧ (ys = [] ∨ ∃ ad, a = some ad ∧ ∀ (j : Nat) u, rows.flatten[j]? = some u → w.cell? (ad.add j) = some u)
theorem q77 {w : World} {b off : Nat} {pre mid post : List Value} {e : TypeId} {fr : Nat × Nat} (hg : w.heap[b]? = some (.cells (pre ++ (mid ++ post)).toArray e fr)) (ho : pre.length = off) : ∀ (j : Nat) u, mid[j]? = some u → w.cell? ((⟨b, off, none⟩ : Addr).add j) = some u := by
  intro j u hj
  rw [q6p]
  have hlt := (List.getElem?_eq_some_iff.1 hj).1
  simp only [World.cell?, hg]
  simp only [Option.isSome_none, Bool.false_eq_true, if_false]
  rw [List.getElem?_toArray, List.getElem?_append_right (by omega), ← ho, Nat.add_sub_cancel_left, List.getElem?_append_left hlt]
  exact hj
theorem q8n {ty : Ty} {fs : List Nat} {row : Nat} {H : List HE} {x : V} {k : List ty.I → Option Nat → Option α} {r : α} (h : rowsOf ty fs row H x k = some r) : ∃ ys src, k ys src = some r ∧ (∀ b, src = some b → ∃ he, H[b]? = some he) ∧
    ∀ (σ : Num) (Z : Zone) (w : World) (v' : Value), (∀ b, src = some b → ∀ he, H[b]? = some he → HER M σ Z w b he) → RV M σ Z w x v' → (ty.size = row → SrcR M σ Z w ty fs ys v') := by
  unfold rowsOf at h
  split at h
  · split at h
    · refine ⟨_, _, h, (fun _ e => by cases e), fun σ Z w v' _ hv _ => ?_⟩
      exact ⟨none, _, [], q2x hv, trivial, .inl rfl⟩
    · cases h
  · rename_i t xs
    split at h
    · rename_i ys hys
      obtain ⟨e, hy⟩ := Ty.q33 hys
      subst e
      subst hy
      refine ⟨_, _, h, (fun _ e => by cases e), fun σ Z w v' _ hv _ => ?_⟩
      obtain ⟨a, cap, h1, h2, h3⟩ := z1p hv
      rcases h3 with rfl | ⟨b, off, cs, el, fr, pre, post, rows, rfl, k2, k3, k4, k5, k6⟩
      · exact ⟨a, cap, [], h1, trivial, .inl rfl⟩
      · have hcs : cs = (pre ++ (rows.flatten ++ post)).toArray := by rw [← k4]
        rw [hcs] at k3
        exact ⟨_, cap, rows, h1, All2.mono (fun _ _ _ h => DV.rvs fs h) k6, .inr ⟨_, rfl, q77 k3 k5⟩⟩
    · cases h
  · rename_i b
    obtain ⟨F, kk⟩ := b
    split at h
    · rename_i e t fs' xs hh h0
      simp only at h0; subst h0
      split at h
      · rename_i ys hys
        obtain ⟨e, hy⟩ := Ty.q33 hys
        subst e
        subst hy
        obtain ⟨hfree, h⟩ := q00 h
        refine ⟨_, _, h, (fun b e => by cases e; exact ⟨_, hh⟩), fun σ Z w v' ht hv hsz => ?_⟩
        obtain ⟨hd, rows, h1, h2⟩ := ht F rfl _ hh
        obtain ⟨s, hs, q2, _, q4⟩ := h2
        have e1 := q8e hv hs
        rcases q4 with ⟨_, hn, _, a, q⟩ | ⟨rr, rest, q5, q6, q7⟩
        · have : ys = [] := List.length_eq_zero_iff.1 hn
          subst this
          exact ⟨a, 0, [], e1.trans q, trivial, .inl rfl⟩
        · have q8 := (q7 (Nat.pos_iff_ne_zero.1 t.size_pos)).2.2
          exact ⟨_, _, rows, e1.trans q8, h1.j1a hfree, .inr ⟨_, rfl, q77 (pre := []) (mid := rows.flatten) (post := rest) (by simpa using q6) rfl⟩⟩
      · cases h
    · rename_i e r' cs hh h0
      simp only at h0; subst h0
      obtain ⟨hrow, h'⟩ := q00 h
      clear h
      have hrow := Nat.eq_of_beq_eq_true hrow
      subst hrow
      split at h'
      · rename_i ys hys
        refine ⟨_, _, h', (fun b e => by cases e; exact ⟨_, hh⟩), fun σ Z w v' ht hv hsz => ?_⟩
        obtain ⟨hd, hone, vs, n, h1, h2⟩ := ht F rfl _ hh
        obtain ⟨rows, rfl, h3⟩ := Ty.q7k hys h1
        obtain ⟨s, hs, q2, q3, q4⟩ := h2
        have e1 := q8e hv hs
        have hpos := ty.size_pos
        have hfl : rows.flatten.length = ys.length * ty.size := by
          have := q07 (rows := rows) (n := ty.size) (q3f.len h3) (Nat.le_refl rows.length)
          rw [List.take_length] at this
          rw [this, h3.length]
        have hn : ys.length = n := by
          have := q3 (by omega)
          rw [hfl, hsz] at this
          exact Nat.eq_of_mul_eq_mul_right (by omega) this
        rcases q4 with ⟨_, hn0, _, a, q⟩ | ⟨rr, rest, q5, q6, q7⟩
        · have : ys = [] := List.length_eq_zero_iff.1 (by omega)
          subst this
          exact ⟨a, 0, [], e1.trans q, trivial, .inl rfl⟩
        · have q8 := (q7 (by omega)).2.2
          exact ⟨some ⟨rr, 0, none⟩, s.cap, rows, by rw [e1, q8, hn], h3, .inr ⟨_, rfl, q77 (pre := []) (mid := rows.flatten) (post := rest) (by simpa using q6) rfl⟩⟩
      · cases h'
    · rename_i e t xss hh
      split at h
      · rename_i o hxs
        split at h
        · rename_i xs
          split at h
          · rename_i ys hys
            obtain ⟨e1, hy⟩ := Ty.q33 hys
            subst e1
            subst hy
            obtain ⟨hfree, h⟩ := q00 h
            refine ⟨_, _, h, (fun b e => by cases e; exact ⟨_, hh⟩), fun σ Z w v' ht hv hsz => ?_⟩
            obtain ⟨hm, _⟩ := ht F rfl _ hh
            obtain ⟨rows, h1, h2⟩ := hm kk ys hxs
            obtain ⟨s, hs, q2, _, q4⟩ := h2
            have e1 := q8e hv hs
            rcases q4 with ⟨_, hn, _, a, q⟩ | ⟨rr, rest, q5, q6, q7⟩
            · have : ys = [] := List.length_eq_zero_iff.1 hn
              subst this
              exact ⟨a, 0, [], e1.trans q, trivial, .inl rfl⟩
            · have q8 := (q7 (Nat.pos_iff_ne_zero.1 t.size_pos)).2.2
              exact ⟨_, _, rows, e1.trans q8, h1.j1a hfree, .inr ⟨_, rfl, q77 (pre := []) (mid := rows.flatten) (post := rest) (by simpa using q6) rfl⟩⟩
          · cases h
        · cases h
      · cases h
    · cases h
  · rename_i b lo n
    obtain ⟨F, kk⟩ := b
    split at h
    · rename_i e t fs' xs h0 hh
      simp only at h0; subst h0
      split at h
      · rename_i ys hys
        obtain ⟨e, hy⟩ := Ty.q33 hys
        subst e
        subst hy
        obtain ⟨hc, h⟩ := q00 h
        simp only [Bool.and_eq_true] at hc
        obtain ⟨hfree, hle⟩ := hc
        have hle := Nat.le_of_ble_eq_true hle
        refine ⟨_, _, h, (fun b e => by cases e; exact ⟨_, hh⟩), fun σ Z w v' ht hv hsz => ?_⟩
        obtain ⟨hd, rows, h1, h2⟩ := ht F rfl _ hh
        obtain ⟨s, hs, q2, _, q4⟩ := h2
        have hlen : ((ys.drop lo).take n).length = n := by simp; omega
        rcases z6j hv hs with ⟨_, rfl, a, q⟩ | ⟨rr, cap, off, q1, q, _, p4, _⟩
        · have : (ys.drop lo).take 0 = [] := by simp
          rw [this]
          exact ⟨a, 0, [], q, trivial, .inl rfl⟩
        · refine ⟨_, cap, (rows.drop lo).take n, by rw [hlen]; exact q, (h1.drop lo).take n |> fun h => (show q3f M σ Z w t fs' _ _ from h).j1a hfree, ?_⟩
          by_cases hn : n = 0
          · left; subst hn; simp
          · right
            have p4 := p4.resolve_left hn
            rcases q4 with ⟨q0, hn0, _⟩ | ⟨r2, rest, q5, q6, q7⟩
            · rw [q0] at q1; cases q1
            · rw [q5] at q1
              cases q1
              have hrl := h1.length
              refine ⟨_, rfl, q77 (pre := (rows.take lo).flatten) (mid := ((rows.drop lo).take n).flatten) (post := (rows.drop (lo + n)).flatten ++ rest) (fr := (0, 0)) (e := e) ?_ ?_⟩
              · rw [q6]
                have e1 : rows = rows.take lo ++ ((rows.drop lo).take n ++ rows.drop (lo + n)) := by
                  rw [← List.drop_drop, List.take_append_drop, List.take_append_drop]
                conv => lhs; rw [e1]
                simp
              · rw [q07 (q3f.len h1) (by omega), p4, q2]
      · cases h
    · cases h
  · cases h
def BaseR (M : Cfg) (σ : Num) (Z : Zone) (w : World) (s : Slot) (e : TypeId) (t : Ty) (fs : List Nat) (xs : List t.I) (v' : Value) : Prop :=
  (s.real = none ∧ xs = [] ∧ ∃ a, v' = .slice a 0 0) ∨
    ∃ r rows rest cap, s.real = some r ∧ v' = .slice (some ⟨r, 0, none⟩) xs.length cap ∧ w.heap[r]? = some (.cells (rows.flatten ++ rest).toArray e (0, 0)) ∧ cap ≤ maxLen ∧ (rows.flatten ++ rest).length = cap * t.size ∧ q3f M σ Z w t fs xs rows
theorem j07 {H : List HE} {e : TypeId} {ty : Ty} {row : Nat} {x : V} {k : (t : Ty) → List Nat → List t.I → Option Nat → Option α} {r : α} (h : baseOf H e ty row x k = some r) : ∃ t fs xs old, k t fs xs old = some r ∧ t.size = row ∧
    ((old = none ∧ xs = [] ∧ x = .lf (.slice none 0 0)) ∨ ∃ b he, old = some b ∧ H[b]? = some he ∧ ∀ (σ : Num) (Z : Zone) (w : World) (v' : Value), HER M σ Z w b he → RV M σ Z w x v' →
      (∀ k, σ b k ≠ .fresh) ∧ (∃ s, σ b 0 = .alive s ∧ BaseR M σ Z w s e t fs xs v') ∧ ∀ k r, σ.real b k r → k = 0) := by
  unfold baseOf at h
  split at h
  · rename_i b
    obtain ⟨F, kk⟩ := b
    split at h
    · rename_i e0 t fs xs h0 hh
      simp only at h0; subst h0
      obtain ⟨hc, h'⟩ := q00 h
      clear h
      simp only [Bool.and_eq_true] at hc
      have c1 := Nat.eq_of_beq_eq_true hc.1
      have c2 := Nat.eq_of_beq_eq_true hc.2
      subst c1
      refine ⟨t, fs, xs, some F, h', c2, .inr ⟨F, _, rfl, hh, fun σ Z w v' hr hv => ?_⟩⟩
      obtain ⟨hd, rows, h1, s, hs, q2, _, q4⟩ := hr
      refine ⟨fun k => ?_, ⟨s, hs, ?_⟩, fun k r ⟨s', g1, _⟩ => ?_⟩
      · cases k with
        | zero => rw [hs]; simp
        | succ k => rw [hd]; simp
      · have e1 := q8e hv hs
        rcases q4 with ⟨q5, hn, _, a, q⟩ | ⟨rr, rest, q5, q6, q7⟩
        · exact .inl ⟨q5, List.length_eq_zero_iff.1 hn, a, e1.trans q⟩
        · obtain ⟨p1, p2, p3⟩ := q7 (Nat.pos_iff_ne_zero.1 t.size_pos)
          exact .inr ⟨rr, rows, rest, s.cap, q5, e1.trans p3, q6, p1, p2, h1⟩
      · cases k with
        | zero => rfl
        | succ k => rw [hd] at g1; cases g1
    · rename_i e0 r' cs h0 hh
      simp only at h0; subst h0
      obtain ⟨hc, h'⟩ := q00 h
      clear h
      simp only [Bool.and_eq_true] at hc
      have c1 := Nat.eq_of_beq_eq_true hc.1.1
      have c2 := Nat.eq_of_beq_eq_true hc.1.2
      have c3 := Nat.eq_of_beq_eq_true hc.2
      subst c1
      subst c2
      split at h'
      · rename_i xs hxs
        refine ⟨ty, [], xs, some F, h', c3, .inr ⟨F, _, rfl, hh, fun σ Z w v' hr hv => ?_⟩⟩
        obtain ⟨hd, hone, vs, n, h1, s, hs, q2, q3, q4⟩ := hr
        obtain ⟨rows, rfl, h3⟩ := Ty.q7k hxs h1
        have hpos := ty.size_pos
        have hfl : rows.flatten.length = xs.length * ty.size := by
          have := q07 (rows := rows) (n := ty.size) (q3f.len h3) (Nat.le_refl rows.length)
          rw [List.take_length] at this
          rw [this, h3.length]
        have hn : xs.length = n := by
          have := q3 (by omega)
          rw [hfl, c3] at this
          exact Nat.eq_of_mul_eq_mul_right (by omega) this
        refine ⟨fun k => ?_, ⟨s, hs, ?_⟩, fun k r ⟨s', g1, _⟩ => ?_⟩
        · cases k with
          | zero => rw [hs]; simp
          | succ k => rw [hd]; simp
        · have e1 := q8e hv hs
          rcases q4 with ⟨q5, hn0, _, a, q⟩ | ⟨rr, rest, q5, q6, q7⟩
          · exact .inl ⟨q5, List.length_eq_zero_iff.1 (by omega), a, e1.trans q⟩
          · obtain ⟨p1, p2, p3⟩ := q7 (by omega)
            exact .inr ⟨rr, rows, rest, s.cap, q5, by rw [e1, p3, hn], q6, p1, by rw [c3]; exact p2, h3⟩
        · cases k with
          | zero => rfl
          | succ k => rw [hd] at g1; cases g1
      · cases h'
    · cases h
  · rename_i b lo n
    obtain ⟨F, kk⟩ := b
    split at h
    · rename_i e0 t fs xs h0 hh
      simp only at h0; subst h0
      obtain ⟨hc, h'⟩ := q00 h
      clear h
      simp only [Bool.and_eq_true] at hc
      have c1 := Nat.eq_of_beq_eq_true hc.1.1
      have c2 := Nat.eq_of_beq_eq_true hc.1.2
      have c3 := Nat.le_of_ble_eq_true hc.2
      subst c1
      refine ⟨t, fs, xs.take n, some F, h', c2, .inr ⟨F, _, rfl, hh, fun σ Z w v' hr hv => ?_⟩⟩
      obtain ⟨hd, rows, h1, s, hs, q2, q3, q4⟩ := hr
      have hlen : (xs.take n).length = n := by simp; omega
      refine ⟨fun k => ?_, ⟨s, hs, ?_⟩, fun k r ⟨s', g1, _⟩ => ?_⟩
      · cases k with
        | zero => rw [hs]; simp
        | succ k => rw [hd]; simp
      · rcases z6j hv hs with ⟨q5, rfl, a, q⟩ | ⟨rr, cap, off, q5, q, g1, g2, g3⟩
        · exact .inl ⟨q5, by simp, a, q⟩
        · obtain ⟨g4, g5⟩ := g3 rfl
          subst g4
          subst g5
          rcases q4 with ⟨q6, _⟩ | ⟨r2, rest, q6, q7, q8⟩
          · rw [q6] at q5; cases q5
          · rw [q6] at q5
            cases q5
            obtain ⟨p1, p2, p3⟩ := q8 (Nat.pos_iff_ne_zero.1 t.size_pos)
            refine .inr ⟨rr, rows.take n, (rows.drop n).flatten ++ rest, s.cap, q6, by rw [hlen]; exact q, ?_, p1, ?_, h1.take n⟩
            · rw [q7, ← List.append_assoc, ← List.flatten_append, List.take_append_drop]
            · rw [← List.append_assoc, ← List.flatten_append, List.take_append_drop]; exact p2
      · cases k with
        | zero => rfl
        | succ k => rw [hd] at g1; cases g1
    · cases h
  · split at h
    · obtain ⟨hc, h⟩ := q00 h
      exact ⟨ty, [], [], none, h, Nat.eq_of_beq_eq_true hc, .inl ⟨rfl, rfl, rfl⟩⟩
    · cases h
  · cases h
theorem q9e {P : Program} {w : World} {size n len cap : Nat} {ba : Option Addr} {cs : List Value} (hl : cs.length = n * size) (h : n = 0 ∨ ∃ b, ba = some b ∧ ∀ (j : Nat) u, cs[j]? = some u → w.cell? (b.add j) = some u) :
    (Builtin.firstCells size n (.slice ba len cap)).run P w = .ok cs.toArray w := by
  rcases h with rfl | ⟨b, rfl, h⟩
  · have : cs = [] := List.length_eq_zero_iff.1 (by omega)
    subst this
    cases ba with
    | none => exact run_firstCells_none w size 0 len cap
    | some b => exact run_firstCells_some w size 0 b len cap [] (by simp) (by simp)
  · exact run_firstCells_some w size n b len cap cs hl h
theorem q6n {P : Program} {w : World} {t ty e : TypeId} {i : TypeInfo} {z : Value} (ht : P.underlying t = some (.slice e)) (hi : P.info? e = some i) (hz : i.zero = some z) (hzs : z.cells.size = i.size)
    {ba sa : Option Addr} {n cap m mc : Nat} {olds news : List Value} (hol : olds.length = n * i.size) (hold : n = 0 ∨ ∃ b, ba = some b ∧ ∀ (j : Nat) u, olds[j]? = some u → w.cell? (b.add j) = some u)
    (hnl : news.length = m * i.size) (hnew : m = 0 ∨ ∃ b, sa = some b ∧ ∀ (j : Nat) u, news[j]? = some u → w.cell? (b.add j) = some u) (h63 : n + m ≤ 4000000) (hb : i.bytes ≤ 10000000) :
    (Builtin.append_ #[t, t] ty #[.slice ba n cap, .slice sa m mc]).run P w =
      if n + m ≤ cap then ((match ba with | some a => storeCells (a.add (n * i.size)) news | none => pure ()).run P w).andThen fun _ w' => .ok (.slice ba (n + m) cap) w'
      else .ok (.slice (some ⟨w.heap.size, 0, none⟩) (n + m) (grownCap w (n + m) cap e)) (w.drew.alloc (.cells (olds.toArray ++ news.toArray ++ Builtin.zeroCells z.cells (grownCap w (n + m) cap e - (n + m))) e)) := by
  have hfit : (n + m) * i.bytes ≤ 140737488355328 := by
    have : (n + m) * i.bytes ≤ 4000000 * 10000000 := Nat.mul_le_mul h63 hb
    omega
  have hf := q9e (P := P) (w := w) (len := m) (cap := mc) hnl hnew
  by_cases hle : n + m ≤ cap
  · rw [if_pos hle]
    cases ba <;> simp [Builtin.append_, run_underlying ht, sizeOf, typeInfo, hi, Builtin.lenOf, hle, hf]
  · rw [if_neg hle]
    have h63' : ¬ (9223372036854775807 < ((n : Int) + (m : Int))) := by omega
    have h48' : ¬ (281474976710656 < Builtin.nextslicecap (n + m) cap * i.bytes) := by
      have := growslice_fits (old := cap) (need := n + m) (bytes := i.bytes) (by omega) hfit
      omega
    have hf' := q9e (P := P) (w := w.drew) (len := m) (cap := mc) (ba := sa) (cs := news) hnl hnew
    have hfo := q9e (P := P) (w := w.drew) (len := n) (cap := cap) (ba := ba) (cs := olds) hol hold
    simp [Builtin.append_, run_underlying ht, sizeOf, typeInfo, zeroValue, hi, hz, Builtin.lenOf, hle, h63', h48', Question.forced, hf', hfo, newRow, grownCap]
    congr 2
    apply Array.ext'
    simp [List.append_assoc]
theorem j0s {S : St} {e : TypeId} {ty : Ty} {fs : List Nat} {old : Option Nat} {rds : List Nat} {xs : List ty.I} {m : Nat} {k : Out → Option α} {r : α} (h : growTo S e ty fs old rds xs m k = some r) :
    m ≤ 4000000 ∧ k { v := .own (S.heap.length, 0), chg := (idOf old).map (fun G => (G, HE.dead)) ++ [(S.heap.length, .list e ty fs xs)], rds := rds } = some r := by
  unfold growTo at h
  obtain ⟨h1, h⟩ := q00 h
  refine ⟨Nat.le_of_ble_eq_true h1, ?_⟩
  cases old <;> exact h
theorem z04 {S : St} {o : Oper} {c : Call} {x y : Operand} {u v : V} {k : Out → Option α} {r : α} (ho : o.op = .call c) (hc : c.callee = .builtin .append) (hargs : c.args.toList = [x, y]) (hx : S.ev x = some u) (hy : S.ev y = some v)
    (h : z26 M S c.argTypes.toList u v k = some r) : ∃ out, k out = some r ∧ Good M S.fs o out := by
  have hargs' : c.args = #[x, y] := by rw [← Array.toList_inj]; exact hargs
  have hmx : x ∈ o.op.operands := by simp [ho, Op.operands, Call.operands, hc, hargs']
  have hmy : y ∈ o.op.operands := by simp [ho, Op.operands, Call.operands, hc, hargs']
  unfold z26 at h
  split at h
  · rename_i t t' hts
    split at h
    · rename_i e hu
      split at h
      · rename_i ti z ty hti hz hty
        obtain ⟨i, zv, z1, z2, z3, z4⟩ := q4y hz
        rw [hti] at z1
        cases z1
        obtain ⟨hb, h'⟩ := q00 h
        clear h
        simp only [Bool.and_eq_true] at hb
        obtain ⟨⟨⟨c1, c2⟩, c3⟩, c4⟩ := hb
        have c1 : 0 < ti.size := Nat.le_of_ble_eq_true c1
        have c2 := Nat.eq_of_beq_eq_true c2
        have c3 := Nat.le_of_ble_eq_true c3
        have c4 := Nat.eq_of_beq_eq_true c4
        subst c4
        have htys : c.argTypes = #[t, t] := by rw [← Array.toList_inj]; exact hts
        obtain ⟨tx, fs, xs, old, h, hsz, hbase⟩ := j07 (M := M) h'
        obtain ⟨ys, src, h, hsrc0, hsrc⟩ := q8n (M := M) h
        obtain ⟨hap, h⟩ := q00 h
        obtain ⟨hm, h⟩ := j0s h
        refine ⟨_, h, fun σ Z a w hinv hops ht hn K Q hK => ?_⟩
        have hf := hn S.heap.length (by simp [fams]) (by simp [St.fs])
        have hzs : zv.cells.size = ti.size := by rw [← c2, (z4 σ Z w).length]; simp
        have hsv := hsrc σ Z w (a.eval y) (fun b e he hh => ht b (.inl (by rw [e]; simp [idOf])) he hh) (hops y hmy _ (by rw [q2f, hy])) hsz
        obtain ⟨sa, mc, rows, hv, hrows, hcell⟩ := hsv
        have hflat : ∀ {xs : List tx.I} {rows : List (List Value)}, q3f M σ Z w tx fs xs rows → rows.flatten.length = xs.length * ti.size := fun {xs rows} h => by
          have := q07 (rows := rows) (n := tx.size) (q3f.len h) (Nat.le_refl rows.length)
          rw [List.take_length] at this
          rw [this, ← h.length, hsz]
        have hones : ∀ {xs : List tx.I} {rows : List (List Value)}, q3f M σ Z w tx fs xs rows → ∀ v ∈ rows.flatten, v.oneCell' = true := fun {xs rows} h v hv => by
          obtain ⟨row, hr, hv⟩ := List.mem_flatten.1 hv
          obtain ⟨j, hj⟩ := List.getElem?_of_mem hr
          have hlt : j < xs.length := by have := (List.getElem?_eq_some_iff.1 hj).1; have := h.length; omega
          obtain ⟨row', h1, h2⟩ := h.get (i := j) (a := xs[j]) (by simp [hlt])
          rw [hj] at h1
          cases h1
          exact h2.ones (Ty.q4z _ _ _) v hv
        have hnew : ys.length = 0 ∨ ∃ b, sa = some b ∧ ∀ (j : Nat) u, rows.flatten[j]? = some u → w.cell? (b.add j) = some u := hcell.imp (fun h => by rw [h]; rfl) id
        have hexec : ∀ q, a.eval x = q → execOp a.eval o = (do let s ← Builtin.append_ #[t, t] o.type #[q, a.eval y]; pure (.value s)) := fun q hq => by
          simp [execOp, ho, resolve, hc, hargs', hq, invoke, builtin, htys]
        have put : ∀ (w' : World) (s : Slot) (pre : List Value), (∀ G ∈ idOf old, ∀ k, σ G k ≠ .fresh) → w'.os = w.os → w'.tape = w.tape → w'.output = w.output → w.heap.size ≤ w'.heap.size →
            (∀ r, r < w.heap.size → ¬ ownT σ (idOf old) r → w'.heap[r]? = w.heap[r]?) → (∀ r, s.real = some r → r < w'.heap.size ∧ (ownT σ (idOf old) r ∨ w.heap.size ≤ r)) → s.whole.oneCell' = true → s.row = ti.size →
            (∃ rows0, q3f M σ Z w tx fs xs rows0 ∧ rows0.flatten = pre) →
            ((s.real = none ∧ xs.length + ys.length = 0 ∧ ∃ a, s.whole = .slice a 0 0) ∨ ∃ r rest, s.real = some r ∧ w'.heap[r]? = some (.cells ((pre ++ rows.flatten) ++ rest).toArray e (0, 0)) ∧ s.cap ≤ maxLen ∧ ((pre ++ rows.flatten) ++ rest).length = s.cap * ti.size ∧ s.whole = .slice (some ⟨r, 0, none⟩) (xs.length + ys.length) s.cap) →
            K (a.put o.dst s.whole) w' := by
          intro w' s pre p1 p2 p3 p4 p5 p6 p7 p8 p9 p10 p11
          obtain ⟨rows0, g1, rfl⟩ := p10
          have mv := j21 (M := M) (he := .list e tx fs (xs ++ ys)) (s := s) hinv p1 hf p2 p3 p4 p5 p6 p7 fun hle => by
            refine ⟨fun k => Num.q3c _ _ _ _, rows0 ++ rows, All2.append (g1.mono hle) (hrows.mono hle), s, Num.q3c _ _ _ _, by rw [p9, hsz], fun _ => ?_, ?_⟩
            · rw [List.flatten_append, List.length_append, hflat g1, hflat hrows, List.length_append, Nat.add_mul, hsz]
            · rcases p11 with ⟨q1, q2, q3⟩ | ⟨r, rest, q1, q2, q3, q4, q5⟩
              · exact .inl ⟨q1, by simpa using q2, by omega, q3⟩
              · exact .inr ⟨r, rest, q1, by rw [List.flatten_append]; exact q2, fun _ => ⟨q3, by rw [List.flatten_append, hsz]; exact q4, by rw [q5]; simp⟩⟩
          refine hK s.whole w' _ Z ?_ mv
          simp only [RV, Num.q3c, one]
          exact ⟨by trivial, p8⟩
        have grow : ∀ (ba : Option Addr) (cap : Nat) (pre : List Value), (∀ G ∈ idOf old, ∀ k, σ G k ≠ .fresh) → a.eval x = .slice ba xs.length cap → (∃ rows0, q3f M σ Z w tx fs xs rows0 ∧ rows0.flatten = pre) →
            (xs.length = 0 ∨ ∃ b, ba = some b ∧ ∀ (j : Nat) u, pre[j]? = some u → w.cell? (b.add j) = some u) → ¬ (xs.length + ys.length ≤ cap) → o.wp M.P a w K Q := by
          intro ba cap pre p1 p2 p3 p4 p5
          obtain ⟨rows0, g1, rfl⟩ := p3
          have hr := q6n (P := M.P) (w := w) (ty := o.type) (cap := cap) (mc := mc) hu hti z2 hzs (hflat g1) p4 (hflat hrows) hnew hm c3
          rw [if_neg p5] at hr
          have hge := grownCap_ge w (xs.length + ys.length) cap e
          have hcm := grownCap_le_maxLen w (xs.length + ys.length) cap e (by simp only [maxLen]; omega)
          refine q3a (v := .slice (some ⟨w.heap.size, 0, none⟩) (xs.length + ys.length) (grownCap w (xs.length + ys.length) cap e)) ?_
            (put (w.drew.alloc (.cells (rows0.flatten.toArray ++ rows.flatten.toArray ++ Builtin.zeroCells zv.cells (grownCap w (xs.length + ys.length) cap e - (xs.length + ys.length))) e)) { whole := .slice (some ⟨w.heap.size, 0, none⟩) (xs.length + ys.length) (grownCap w (xs.length + ys.length) cap e), real := some w.heap.size, cap := grownCap w (xs.length + ys.length) cap e, row := ti.size } rows0.flatten p1 rfl rfl rfl ?_ ?_ ?_ rfl rfl ⟨rows0, g1, rfl⟩ (.inr ⟨_, (Builtin.zeroCells zv.cells (grownCap w (xs.length + ys.length) cap e - (xs.length + ys.length))).toList, rfl, ?_, hcm, ?_, rfl⟩))
          · rw [hexec _ p2, hv]
            simp [hr]
          · show w.heap.size ≤ (w.heap.push _).size
            simp
          · intro r hr' _
            show (w.heap.push _)[r]? = _
            rw [Array.getElem?_push, if_neg (by omega)]
          · intro r hr'
            cases hr'
            refine ⟨?_, .inr (Nat.le_refl _)⟩
            show _ < (w.heap.push _).size
            simp
          · show (w.heap.push _)[w.heap.size]? = _
            simp
          · have h0 := hflat g1
            have h00 := hflat hrows
            simp only [List.length_append, Array.length_toList, size_zeroCells, hzs, h0, h00, ← Nat.add_mul]
            congr 1
            omega
        rcases hbase with ⟨rfl, rfl, rfl⟩ | ⟨b, he, rfl, hb, hbs⟩
        · have hxv : a.eval x = .slice none 0 0 := q2x (hops x hmx _ (by rw [q2f, hx]))
          by_cases h0 : ys.length = 0
          · have hr := q6n (P := M.P) (w := w) (ty := o.type) (ba := none) (n := 0) (cap := 0) (mc := mc) (olds := []) hu hti z2 hzs (by simp) (.inl rfl) (hflat hrows) hnew (by simpa using hm) c3
            rw [if_pos (by omega)] at hr
            refine q3a (v := .slice none 0 0) (w' := w) ?_ (put w { whole := .slice none 0 0, real := none, cap := 0, row := ti.size } [] (by simp [idOf]) rfl rfl rfl (Nat.le_refl _) (fun _ _ _ => rfl) (fun _ e => by cases e) rfl rfl ⟨[], trivial, rfl⟩ (.inl ⟨rfl, by simpa using h0, none, rfl⟩))
            rw [h0] at hr
            rw [hexec _ hxv, hv, h0, Sem.run_bind, hr]
            rfl
          · exact grow none 0 [] (by simp [idOf]) hxv ⟨[], trivial, rfl⟩ (.inl rfl) (by simp only [List.length_nil]; omega)
        · have hher := ht b (.inr (by simp [fams, idOf])) he hb
          obtain ⟨g1, ⟨s0, g2, g3⟩, g4⟩ := hbs σ Z w (a.eval x) hher (hops x hmx _ (by rw [q2f, hx]))
          have hkill : ∀ G ∈ idOf (some b), ∀ k, σ G k ≠ .fresh := fun G hG k => by simp [idOf] at hG; subst hG; exact g1 k
          rcases g3 with ⟨q1, rfl, ad, q⟩ | ⟨rr, rows0, rest, cap, q1, q, q3, q4, q5, q6⟩
          · by_cases h0 : ys.length = 0
            · have hr := q6n (P := M.P) (w := w) (ty := o.type) (ba := ad) (n := 0) (cap := 0) (mc := mc) (olds := []) hu hti z2 hzs (by simp) (.inl rfl) (hflat hrows) hnew (by simpa using hm) c3
              rw [if_pos (by omega)] at hr
              have hrf : rows.flatten = [] := List.length_eq_zero_iff.1 (by rw [hflat hrows, h0]; simp)
              refine q3a (v := .slice ad 0 0) (w' := w) ?_ (put w { whole := .slice ad 0 0, real := none, cap := 0, row := ti.size } [] hkill rfl rfl rfl (Nat.le_refl _) (fun _ _ _ => rfl) (fun _ e => by cases e) rfl rfl ⟨[], trivial, rfl⟩ (.inl ⟨rfl, by simpa using h0, ad, rfl⟩))
              rw [h0, hrf] at hr
              rw [hexec _ q, hv, h0, Sem.run_bind]
              cases ad with
              | none => rw [hr]; rfl
              | some ad => rw [hr]; simp [storeCells]
            · exact grow ad 0 [] hkill q ⟨[], trivial, rfl⟩ (.inl rfl) (by simp only [List.length_nil]; omega)
          · by_cases hroom : xs.length + ys.length ≤ cap
            · have hr := q6n (P := M.P) (w := w) (ty := o.type) (ba := some ⟨rr, 0, none⟩) (cap := cap) (mc := mc) hu hti z2 hzs (hflat q6) (.inr ⟨_, rfl, q77 (pre := []) (mid := rows0.flatten) (post := rest) (by simpa using q3) rfl⟩) (hflat hrows) hnew hm c3
              rw [if_pos hroom] at hr
              have hfl0 := hflat q6
              have hfl1 := hflat hrows
              have hfit : xs.length * ti.size + rows.flatten.length ≤ (rows0.flatten ++ rest).length := by
                rw [q5, hsz, hfl1, ← Nat.add_mul]
                exact Nat.mul_le_mul_right _ hroom
              have hst := run_storeCells_at M.P rr (xs.length * ti.size) e rows.flatten 0 (rows0.flatten ++ rest).toArray w q3 (by simpa using hfit) (hones hrows)
              have hcells : ((rows0.flatten ++ rest).toArray.toList.take (xs.length * ti.size + 0) ++ rows.flatten ++ (rows0.flatten ++ rest).toArray.toList.drop (xs.length * ti.size + 0 + rows.flatten.length)) = (rows0.flatten ++ rows.flatten) ++ rest.drop rows.flatten.length := by
                simp only [Nat.add_zero, ← hfl0]
                simp [List.drop_append]
              rw [hcells] at hst
              have hown : ownT σ (idOf (some b)) rr := ⟨b, by simp [idOf], 0, s0, g2, q1⟩
              refine q3a (v := .slice (some ⟨rr, 0, none⟩) (xs.length + ys.length) cap) (w' := w.setRow rr ((rows0.flatten ++ rows.flatten) ++ rest.drop rows.flatten.length).toArray) ?_
                (put _ { whole := .slice (some ⟨rr, 0, none⟩) (xs.length + ys.length) cap, real := some rr, cap := cap, row := ti.size } rows0.flatten hkill rfl rfl rfl (by rw [setRow_size]; exact Nat.le_refl _) ?_ ?_ rfl rfl ⟨rows0, q6, rfl⟩ (.inr ⟨rr, rest.drop rows.flatten.length, rfl, setRow_heap w rr _ _ _ _ q3, q4, ?_, rfl⟩))
              · rw [hexec _ q, hv]
                have e0 := q6p rr 0 (xs.length * ti.size)
                simp only [Nat.zero_add] at e0
                simp only [Sem.run_bind, hr, e0]
                rw [hst]
                rfl
              · intro r hr' hno
                exact setRow_other w rr r _ fun e => hno (e ▸ hown)
              · intro r e
                cases e
                rw [setRow_size]
                exact ⟨hinv.lt _ hown.own, .inl hown⟩
              · rw [← hsz, ← q5]
                simp only [List.length_append, List.length_drop] at hfit ⊢
                omega
            · exact grow _ cap rows0.flatten hkill q ⟨rows0, q6, rfl⟩ (.inr ⟨_, rfl, q77 (pre := []) (mid := rows0.flatten) (post := rest) (by simpa using q3) rfl⟩) hroom
      · cases h
    · cases h
  · cases h
end Go.Proofs.YtdjkdmjdcdljmaaGreatDoorY
