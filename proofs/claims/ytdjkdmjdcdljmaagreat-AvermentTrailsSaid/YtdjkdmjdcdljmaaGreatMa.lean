/- Own work. No condition. -/
import Derived.Orders
import Derived.Below
import Derived.KernelRfl
import Derived.Laws.StructEq
namespace Go.Proofs.YtdjkdmjdcdljmaaGreatX
open Go.RowKit
set_option linter.unusedVariables false
set_option linter.unusedSimpArgs false

inductive Err
  | nil
  | no (n : Int)
  | at (p : Int) (e : Err)
inductive Ty
  | int (k : IntKind)
  | bool
  | str
  | err
  | own (j : Nat)
  | slice (t : Ty)
  | ptr (t : Ty)
  | pair (a b : Ty)
@[reducible] def Ty.I : Ty → Type
  | .int _ => Int
  | .bool => Bool
  | .str => ByteArray
  | .err => Err
  | .own _ => Nat
  | .slice t => List t.I
  | .ptr t => Option t.I
  | .pair a b => a.I × b.I
def IntKind.beq' : IntKind → IntKind → Bool
  | .i8, .i8 | .i16, .i16 | .i32, .i32 | .i64, .i64 | .u8, .u8 | .u16, .u16 | .u32, .u32 | .u64, .u64 => true
  | _, _ => false
def Ty.beq : Ty → Ty → Bool
  | .int k, .int k' => IntKind.beq' k k'
  | .bool, .bool => true
  | .str, .str => true
  | .err, .err => true
  | .own j, .own j' => Nat.beq j j'
  | .slice t, .slice t' => t.beq t'
  | .ptr t, .ptr t' => t.beq t'
  | .pair a b, .pair a' b' => a.beq a' && b.beq b'
  | _, _ => false
theorem IntKind.beq'_eq {k k' : IntKind} (h : IntKind.beq' k k' = true) : k = k' := by cases k <;> cases k' <;> first | rfl | cases h
theorem Ty.beq_eq : ∀ {t t' : Ty}, t.beq t' = true → t = t'
  | .int k, t', h => by cases t' <;> simp [Ty.beq] at h; rw [IntKind.beq'_eq h]
  | .bool, t', h => by cases t' <;> simp [Ty.beq] at h; rfl
  | .str, t', h => by cases t' <;> simp [Ty.beq] at h; rfl
  | .err, t', h => by cases t' <;> simp [Ty.beq] at h; rfl
  | .own j, t', h => by cases t' <;> simp [Ty.beq] at h; rw [h]
  | .slice t, t', h => by cases t' <;> simp [Ty.beq] at h; rw [Ty.beq_eq h]
  | .ptr t, t', h => by cases t' <;> simp [Ty.beq] at h; rw [Ty.beq_eq h]
  | .pair a b, t', h => by cases t' <;> simp [Ty.beq] at h; rw [Ty.beq_eq h.1, Ty.beq_eq h.2]
def Ty.cast {F : Type → Type} (t t' : Ty) (x : F t.I) : Option (F t'.I) := if h : t.beq t' = true then some (Ty.beq_eq h ▸ x) else none
def Ty.size : Ty → Nat
  | .pair a b => a.size + b.size
  | _ => 1

abbrev Bid := Nat × Nat
inductive V
  | lf (v : Value)
  | err (e : Err)
  | deep (t : Ty) (xs : List t.I)
  | pin (t : Ty) (x : Option t.I)
  | own (b : Bid)
  | sub (b : Bid) (lo n : Nat)
  | ptr (b : Bid) (i off : Nat)
  | fn (f : Fn) (first captured : List V)
  | agg (cs : List V)
  | tup (vs : List V)
def leafB : Value → Bool
  | .bool _ => true
  | .int _ _ => true
  | .string _ => true
  | .nilFunc => true
  | .nilIface => true
  | .pointer none => true
  | .slice none _ _ => true
  | _ => false
def V.one : V → Bool
  | .agg _ => false
  | .tup _ => false
  | _ => true
def V.isA : V → Bool
  | .tup _ => false
  | _ => true
def V.cells : V → List V
  | .agg cs => cs
  | v => [v]
def V.und : V := .tup []

def Ty.cells (fs : List Nat) : (t : Ty) → t.I → List V
  | .int k, n => [.lf (.int k n)]
  | .bool, b => [.lf (.bool b)]
  | .str, s => [.lf (.string s)]
  | .err, e => [.err e]
  | .own j, k => [.own (fs.getD j 0, k)]
  | .slice t, xs => [.deep t xs]
  | .ptr t, x => [.pin t x]
  | .pair a b, x => a.cells fs x.1 ++ b.cells fs x.2

def Ty.un (fs : List Nat) : (t : Ty) → List V → Option (t.I × List V)
  | .int k, v :: r => match v with
    | .lf (.int k' n) => bif IntKind.beq' k' k then some (n, r) else none
    | _ => none
  | .bool, v :: r => match v with
    | .lf (.bool b) => some (b, r)
    | _ => none
  | .str, v :: r => match v with
    | .lf (.string s) => some (s, r)
    | _ => none
  | .err, v :: r => match v with
    | .err e => some (e, r)
    | .lf .nilIface => some (Err.nil, r)
    | _ => none
  | .own j, v :: r => match v with
    | .own (f, k) => bif Nat.beq f (fs.getD j 0) then some (k, r) else none
    | _ => none
  | .slice t, v :: r => match v with
    | .deep t' xs => match Ty.cast (F := List) t' t xs with
      | some ys => some (ys, r)
      | none => none
    | .lf (.slice none n _) => match n with
      | 0 => some ([], r)
      | _ + 1 => none
    | _ => none
  | .ptr t, v :: r => match v with
    | .pin t' x => match Ty.cast (F := Option) t' t x with
      | some y => some (y, r)
      | none => none
    | .lf (.pointer none) => some (none, r)
    | _ => none
  | .pair a b, vs => match a.un fs vs with
    | some (x, r) => match b.un fs r with
      | some (y, r') => some ((x, y), r')
      | none => none
    | none => none
  | _, [] => none
def Ty.un1 (fs : List Nat) (t : Ty) (vs : List V) : Option t.I :=
  match t.un fs vs with
  | some (x, []) => some x
  | _ => none
def Ty.unRows (fs : List Nat) (t : Ty) : Nat → List V → Option (List t.I)
  | 0, _ => none
  | _ + 1, [] => some []
  | n + 1, v :: vs => match t.un fs (v :: vs) with
    | some (x, r) => match Ty.unRows fs t n r with
      | some xs => some (x :: xs)
      | none => none
    | none => none

inductive HE
  | dead
  | cells (elem : TypeId) (row : Nat) (cs : List V)
  | list (elem : TypeId) (t : Ty) (fs : List Nat) (xs : List t.I)
  | many (elem : TypeId) (t : Ty) (xs : List (List t.I))
structure St where
  env : List (Nat × V)
  heap : List HE
  n : Nat
def look : List (Nat × V) → Nat → Option V
  | [], _ => none
  | (u, v) :: r, t => bif Nat.beq u t then some v else look r t
def vlit (v : Value) : Option V := bif leafB v then some (.lf v) else match v with
  | .func fn first captured => bif first.isEmpty && captured.isEmpty then some (.fn fn [] []) else none
  | _ => none
def St.ev (S : St) : Operand → Option V
  | .tmp t => look S.env t
  | .const v => vlit v
  | .func f => some (.fn (.func f) [] [])
  | _ => none
def St.evs (S : St) : List Operand → Option (List V)
  | [] => some []
  | x :: r => match S.ev x with
    | some v => match S.evs r with | some vs => some (v :: vs) | none => none
    | none => none
structure Out where
  v : V
  chg : List (Nat × HE) := []
  rds : List Nat := []
def setHE (H : List HE) (F : Nat) (he : HE) : List HE := bif Nat.blt F H.length then H.set F he else H ++ [he]
def applyChg (H : List HE) : List (Nat × HE) → List HE
  | [] => H
  | (F, he) :: r => applyChg (setHE H F he) r
def St.know (S : St) (t : Nat) (v : V) : St := { S with env := (t, v) :: S.env }
def St.put (S : St) (o : Oper) (out : Out) : St :=
  { env := match o.dst with | some d => (d, out.v) :: S.env | none => S.env
    heap := applyChg S.heap out.chg
    n := S.n }
def St.dstOk (S : St) (o : Oper) : Bool := match o.dst with | some d => Nat.blt d S.n | none => true
end Go.Proofs.YtdjkdmjdcdljmaaGreatX
