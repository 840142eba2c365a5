/- Own work. No condition. -/
import Derived.Test.YtdjkdmjdcdljmaaGreatMo

namespace Go.Proofs.YtdjkdmjdcdljmaaGreatX
open Go.RowKit
set_option linter.unusedVariables false
set_option linter.unusedSimpArgs false
variable {α : Type}

inductive Sh
  | ty (t : Ty)
  | own (F : Nat)
  | ownI (F : Nat)
  | ptr (F off : Nat)
  | ptrI (F off : Nat)
  | unit
  | cons (a b : Sh)
  | agg (a : Sh)
  | tup (a : Sh)
  | fn (f : FuncId) (a b : Sh)
@[reducible] def Sh.I : Sh → Type
  | .ty t => t.I
  | .own _ => Unit
  | .ownI _ => Nat
  | .ptr _ _ => Unit
  | .ptrI _ _ => Nat
  | .unit => Unit
  | .cons a b => a.I × b.I
  | .agg a => a.I
  | .tup a => a.I
  | .fn _ a b => a.I × b.I
def Sh.enc : (s : Sh) → s.I → List V
  | .ty t, x => t.cells [] x
  | .own F, _ => [.own (F, 0)]
  | .ownI F, k => [.own (F, k)]
  | .ptr F off, _ => [.ptr (F, 0) 0 off]
  | .ptrI F off, i => [.ptr (F, 0) i off]
  | .unit, _ => []
  | .cons a b, x => a.enc x.1 ++ b.enc x.2
  | .agg a, x => [.agg (a.enc x)]
  | .tup a, x => [.tup (a.enc x)]
  | .fn f a b, x => [.fn (.func f) (a.enc x.1) (b.enc x.2)]
def Sh.ones : Sh → Bool
  | .cons a b => a.ones && b.ones
  | .agg _ => false
  | .tup _ => false
  | _ => true
def Sh.isAs : Sh → Bool
  | .cons a b => a.isAs && b.isAs
  | .tup _ => false
  | .agg a => a.ones
  | _ => true
inductive HSh
  | dead
  | cells (e row : Nat) (s : Sh)
  | list (e : Nat) (t : Ty) (fs : List Nat)
  | many (e : Nat) (t : Ty)
  | void (e : Nat) (t : Ty)
@[reducible] def HSh.I : HSh → Type
  | .dead => Unit
  | .cells _ _ s => s.I
  | .list _ t _ => List t.I
  | .many _ t => List (List t.I)
  | .void _ _ => Unit
def HSh.enc : (h : HSh) → h.I → HE
  | .dead, _ => .dead
  | .cells e row s, x => .cells e row (s.enc x)
  | .list e t fs, x => .list e t fs x
  | .many e t, x => .many e t x
  | .void e t, _ => .many e t []
@[reducible] def HsI : List HSh → Type
  | [] => Unit
  | h :: r => h.I × HsI r
def encH : (hs : List HSh) → HsI hs → List HE
  | [], _ => []
  | h :: r, x => h.enc x.1 :: encH r x.2

inductive MP
  | at (G : Nat)
  | cut (G n : Nat)
  | nil
  | dead
  | void
abbrev Bind := List (Option MP)
structure Wit where
  map : Bind
  fz : List Nat
def getB (m : Bind) (F : Nat) : Option MP := match m[F]? with | some o => o | none => none
def bindAt (m : Bind) (F G : Nat) : Option Bind :=
  match m[F]? with
  | some none => some (m.set F (some (.at G)))
  | some (some (.at G')) => bif Nat.beq G' G then some m else none
  | _ => none
def bindNew (m : Bind) (F : Nat) (p : MP) : Option Bind :=
  match m[F]? with
  | some none => some (m.set F (some p))
  | _ => none

def mL (H : List HE) : (s : Sh) → List V → Wit → Option (s.I × List V × Wit)
  | .ty t, vs, W => match frzL H t vs W.fz with
    | some (x, r, fz) => some (x, r, { W with fz := fz })
    | none => none
  | .own F, v :: r, W => match v with
    | .own b => match b.2 with
      | 0 => match bindAt W.map F b.1 with | some m => some ((), r, { W with map := m }) | none => none
      | _ + 1 => none
    | .sub b lo n => match b.2, lo with
      | 0, 0 => match bindNew W.map F (.cut b.1 n) with | some m => some ((), r, { W with map := m }) | none => none
      | _, _ => none
    | .lf (.slice none n c) => match n, c with
      | 0, 0 => match bindNew W.map F .nil with | some m => some ((), r, { W with map := m }) | none => none
      | _, _ => none
    | _ => none
  | .ownI F, v :: r, W => match v with
    | .own b => match bindAt W.map F b.1 with | some m => some (b.2, r, { W with map := m }) | none => none
    | _ => none
  | .ptr F off, v :: r, W => match v with
    | .ptr b i off' => match b.2, i with
      | 0, 0 => bif Nat.beq off off' then (match bindAt W.map F b.1 with | some m => some ((), r, { W with map := m }) | none => none) else none
      | _, _ => none
    | _ => none
  | .ptrI F off, v :: r, W => match v with
    | .ptr b i off' => match b.2 with
      | 0 => bif Nat.beq off off' then (match bindAt W.map F b.1 with | some m => some (i, r, { W with map := m }) | none => none) else none
      | _ + 1 => none
    | _ => none
  | .unit, vs, W => some ((), vs, W)
  | .cons a b, vs, W => match mL H a vs W with
    | some (x, r, W') => match mL H b r W' with
      | some (y, r', W'') => some ((x, y), r', W'')
      | none => none
    | none => none
  | .agg a, v :: r, W => match v with
    | .agg cs => bif a.ones then (match mL H a cs W with
      | some (x, [], W') => some (x, r, W')
      | _ => none) else none
    | _ => none
  | .tup a, v :: r, W => match v with
    | .tup cs => bif a.isAs then (match mL H a cs W with
      | some (x, [], W') => some (x, r, W')
      | _ => none) else none
    | _ => none
  | .fn f a b, v :: r, W => match v with
    | .fn (.func g) fs cs => bif Nat.beq g f then (match mL H a fs W with
      | some (x, [], W') => match mL H b cs W' with
        | some (y, [], W'') => some ((x, y), r, W'')
        | _ => none
      | _ => none) else none
    | _ => none
  | _, [], _ => none
def bindAll : Bind → List Nat → List Nat → Option Bind
  | m, [], [] => some m
  | m, F :: fs, G :: gs => match bindAt m F G with | some m' => bindAll m' fs gs | none => none
  | _, _, _ => none
def Ty.ownOk (n : Nat) : Ty → Bool
  | .own j => Nat.blt j n
  | .pair a b => a.ownOk n && b.ownOk n
  | _ => true
def atOf (m : Bind) : List Nat → Option (List Nat)
  | [] => some []
  | F :: fs => match getB m F, atOf m fs with | some (.at G), some gs => some (G :: gs) | _, _ => none
def Ty.ownFam : Ty → Nat → List V → Option Nat
  | .own i, j, v :: _ => bif Nat.beq i j then (match v with | .own b => some b.1 | _ => none) else none
  | .pair a b, j, vs => match a.ownFam j vs with | some G => some G | none => b.ownFam j (vs.drop a.size)
  | _, _, _ => none
def famsOf (t : Ty) (cs : List V) : Nat → Nat → Option (List Nat)
  | 0, _ => some []
  | n + 1, j => match t.ownFam j cs with
    | some G => match famsOf t cs n (j + 1) with | some gs => some (G :: gs) | none => none
    | none => none
def rowFams (m : Bind) (fs : List Nat) (t : Ty) (cs : List V) : Option (List Nat) := match famsOf t cs fs.length 0 with
  | some gs => some gs
  | none => atOf m fs
def mH (H : List HE) (h : HSh) (F : Nat) (W : Wit) : Option (h.I × Wit) :=
  match h with
  | .dead => match bindNew W.map F .dead with | some m => some ((), { W with map := m }) | none => none
  | .cells e row s => match getB W.map F with
    | some (.at G) => match H[G]? with
      | some (.cells e' row' cs) => bif Nat.beq e e' && Nat.beq row row' && s.ones then (match mL H s cs W with
        | some (x, [], W') => some (x, W')
        | _ => none) else none
      | _ => none
    | _ => none
  | .list e t fs => match getB W.map F with
    | some (.at G) => match H[G]? with
      | some (.list e' t' fs' xs) => match Ty.cast (F := List) t' t xs, bindAll W.map fs fs' with
        | some ys, some m => bif Nat.beq e e' && t.ownOk fs.length then some (ys, { W with map := m }) else none
        | _, _ => none
      | some (.cells e' row cs) => match rowFams W.map fs t cs with
        | some gs => match t.unRows gs (cs.length + 1) cs, bindAll W.map fs gs with
          | some ys, some m => bif Nat.beq e e' && Nat.beq row t.size && t.ownOk fs.length then some (ys, { W with map := m }) else none
          | _, _ => none
        | none => none
      | _ => none
    | some (.cut G n) => match H[G]? with
      | some (.list e' t' fs' xs) => match Ty.cast (F := List) t' t xs, bindAll W.map fs fs' with
        | some ys, some m => bif Nat.beq e e' && t.ownOk fs.length then some (ys.take n, { W with map := m }) else none
        | _, _ => none
      | _ => none
    | some .nil => some ([], W)
    | _ => none
  | .many e t => match getB W.map F with
    | some (.at G) => match H[G]? with
      | some (.many e' t' xs) => match Ty.cast (F := fun T => List (List T)) t' t xs with
        | some ys => bif Nat.beq e e' && t.ownOk 0 then some (ys, W) else none
        | none => none
      | _ => none
    | _ => none
  | .void e t => match bindNew W.map F .void with | some m => some ((), { W with map := m }) | none => none
def mHs (H : List HE) : (hs : List HSh) → Nat → Wit → Option (HsI hs × Wit)
  | [], _, W => some ((), W)
  | h :: r, F, W => match mH H h F W with
    | some (x, W') => match mHs H r (F + 1) W' with
      | some (y, W'') => some ((x, y), W'')
      | none => none
    | none => none
def srcs : Bind → List Nat
  | [] => []
  | some (.at G) :: r => G :: srcs r
  | some (.cut G _) :: r => G :: srcs r
  | _ :: r => srcs r
def nodupN : List Nat → Bool
  | [] => true
  | F :: r => !hasB r F && nodupN r
def witOk (W : Wit) (n : Nat) : Bool := Nat.beq W.map.length n && nodupN (srcs W.map) && W.fz.all fun G => !hasB (srcs W.map) G
def idB : List HSh → Nat → Nat → Bind
  | [], _, _ => []
  | h :: r, m, F => (bif Nat.blt F m then (match h with | .dead => none | _ => some (.at F)) else none) :: idB r m (F + 1)
def fit0 (s : Sh) (hs : List HSh) (m : Nat) (vs : List V) (H : List HE) : Option ((s.I × HsI hs) × Wit) :=
  match mL H s vs { map := idB hs m 0, fz := [] } with
  | some (x, [], W) => match mHs H hs 0 W with
    | some (y, W') => bif witOk W' hs.length then some ((x, y), W') else none
    | none => none
  | _ => none
def cutsOk (H : List HE) : Bind → Bool
  | [] => true
  | some (.cut G n) :: r => match H[G]? with
    | some (.list _ _ _ xs) => cutsOk H r && Nat.ble n xs.length
    | _ => cutsOk H r
  | _ :: r => cutsOk H r
def fit (s : Sh) (hs : List HSh) (m : Nat) (vs : List V) (H : List HE) : Option ((s.I × HsI hs) × Wit) :=
  match fit0 s hs m vs H with
  | some p => bif cutsOk H p.2.map then some p else none
  | none => none
end Go.Proofs.YtdjkdmjdcdljmaaGreatX
