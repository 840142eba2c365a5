/- Own work. No condition. -/
import Derived.Test.YtdjkdmjdcdljmaaGreatMa

namespace Go.Proofs.YtdjkdmjdcdljmaaGreatX
open Go.RowKit
set_option linter.unusedVariables false
set_option linter.unusedSimpArgs false

def calm {α : Type} (P : Program) : Sem α → Option α
  | .pure a => some a
  | .program k => calm P (k P)
  | .mark _ k => calm P k
  | _ => none

structure Cfg where
  P : Program
  ty : TypeId → Option Ty
  frz : TypeId → Option Ty := fun _ => none
  errno : TypeId
  placed : TypeId

def aggOk (P : Program) (t : TypeId) : Option Bool :=
  match P.underlying t with
  | some (.struct _) => some true
  | some (.array _ _) => some true
  | some _ => some false
  | none => none
def V.leaf? : V → Option Value
  | .lf v => some v
  | _ => none
def leaves? : List V → Option (List Value)
  | [] => some []
  | v :: r => match v.leaf? with
    | some u => match leaves? r with | some us => some (u :: us) | none => none
    | none => none
def V.flat? : V → Option Value
  | .lf v => some v
  | .agg cs => match leaves? cs with
    | some us => some (.agg us.toArray)
    | none => none
  | _ => none
def V.ofFlat (v : Value) : Option V :=
  match v with
  | .agg cs => bif cs.toList.all leafB then some (.agg (cs.toList.map .lf)) else none
  | v => bif leafB v then some (.lf v) else none
def St.flats (S : St) : List Operand → Option Unit
  | [] => some ()
  | x :: r => match S.ev x with
    | some v => match v.flat? with | some _ => S.flats r | none => none
    | none => none
def St.fl (S : St) (x : Operand) : Value := match S.ev x with
  | some v => match v.flat? with | some u => u | none => undef
  | none => undef

variable {α : Type}

def opGen (M : Cfg) (S : St) (o : Oper) (k : Out → Option α) : Option α :=
  match S.flats o.op.operands.toList with
  | none => none
  | some _ => match calm M.P (execOp S.fl o) with
    | some (.value v) => match V.ofFlat v with
      | some u => k { v := u }
      | none => none
    | _ => none

def aliveB (H : List HE) (b : Bid) : Bool :=
  match H[b.1]? with
  | some (.cells _ _ _) => Nat.beq b.2 0
  | some (.list _ _ _ _) => Nat.beq b.2 0
  | some (.many _ _ xs) => Nat.blt b.2 xs.length
  | _ => false
def opDiv (op : BinOp) (x y : Value) (k : Out → Option α) : Option α :=
  match op, x, y with
  | .quo, .int j a, .int j' b => bif IntKind.beq' j j' then bif b == 0 then none else k { v := .lf (.int j (j.wrap (a.tdiv b))) } else none
  | .rem, .int j a, .int j' b => bif IntKind.beq' j j' then bif b == 0 then none else k { v := .lf (.int j (a.tmod b)) } else none
  | _, _, _ => none
def opSh (op : BinOp) (x y : Value) (k : Out → Option α) : Option α :=
  match op, x, y with
  | .shl, .int j a, .int _ b => bif decide (b < 0) then none else k { v := .lf (.int j (j.wrap (a * 2 ^ (min b.toNat j.bits)))) }
  | .shr, .int j a, .int _ b => bif decide (b < 0) then none else k { v := .lf (.int j (a.fdiv (2 ^ (min b.toNat j.bits)))) }
  | _, _, _ => none
def Err.isNil : Err → Bool
  | .nil => true
  | _ => false
def isConst : Operand → Bool
  | .const _ => true
  | _ => false
def nilB (d : Option TypeDesc) (v : V) : Option (Bool × Option Nat) :=
  match v with
  | .err e => match d with
    | some (.interface _) => some (e.isNil, none)
    | _ => none
  | .pin _ x => match d with
    | some (.pointer _) => some (x.isNone, none)
    | _ => none
  | .ptr b _ _ => match d with
    | some (.pointer _) => some (false, some b.1)
    | _ => none
  | _ => none
def idOf : Option Nat → List Nat
  | some b => [b]
  | none => []
def isNilLit (v : V) (u : Value) : Bool :=
  match v, u with
  | .err _, .nilIface => true
  | .pin _ _, .pointer none => true
  | .ptr _ _ _, .pointer none => true
  | _, _ => false
abbrev EqBy := TypeId → Value → Value → Option Bool
def ptrOk (S : St) : V → Bool
  | .ptr b _ _ => aliveB S.heap b
  | _ => true
def opEq (M : Cfg) (E : EqBy) (S : St) (o : Oper) (t : TypeId) (x y : Operand) (neg : Bool) (k : Out → Option α) : Option α :=
  match S.ev x, S.ev y with
  | some (.lf u), some (.lf v) => opGen M S o k
  | some v, some (.lf u) => bif isNilLit v u && isConst y then (match nilB (M.P.underlying t) v with | some (b, f) => bif ptrOk S v then k { v := .lf (.bool (bif neg then !b else b)), rds := idOf f } else none | none => none) else none
  | some (.agg u), some (.agg v) => match leaves? u, leaves? v with
    | some u, some v => match E t (.agg u.toArray) (.agg v.toArray) with
      | some r => k { v := .lf (.bool (bif neg then !r else r)) }
      | none => none
    | _, _ => none
  | _, _ => none

def takeC (cs : List V) (off n : Nat) : Option (List V) := bif Nat.ble (off + n) cs.length then some ((cs.drop off).take n) else none
def putC (cs : List V) (off : Nat) (vs : List V) : Option (List V) := bif Nat.ble (off + vs.length) cs.length then some (cs.take off ++ (vs ++ cs.drop (off + vs.length))) else none
def vpart (M : Cfg) (t : TypeId) (cs : List V) (off : Nat) : Option V :=
  match aggOk M.P t, M.P.info? t with
  | some true, some i => match takeC cs off i.size with
    | some vs => some (.agg vs)
    | none => none
  | some false, _ => cs[off]?
  | _, _ => none
def Ty.part : (t : Ty) → t.I → Nat → Nat → Option ((t' : Ty) × t'.I)
  | .pair a b, x, off, n => bif Nat.beq off 0 && Nat.beq n (a.size + b.size) then some ⟨.pair a b, x⟩
    else bif Nat.ble (off + n) a.size then a.part x.1 off n
    else bif Nat.ble a.size off then b.part x.2 (off - a.size) n else none
  | t, x, off, n => bif Nat.beq off 0 && Nat.beq n t.size then some ⟨t, x⟩ else none
def Ty.free : Ty → Bool
  | .own _ => false
  | .slice t => t.free
  | .ptr t => t.free
  | .pair a b => a.free && b.free
  | _ => true

def rowAt (H : List HE) (b : Bid) (i : Nat) (k : List V → Option α) : Option α :=
  match H[b.1]? with
  | some (.cells _ row cs) => match b.2 with
    | 0 => bif Nat.blt (i * row) cs.length then k (cs.drop (i * row)) else none
    | _ + 1 => none
  | some (.list _ t fs xs) => match b.2 with
    | 0 => match xs[i]? with
      | some x => k (t.cells fs x)
      | none => none
    | _ + 1 => none
  | some (.many _ t xs) => match xs[b.2]? with
    | some ys => match ys[i]? with
      | some x => k (t.cells [] x)
      | none => none
    | none => none
  | _ => none
def rowPut (H : List HE) (b : Bid) (i off : Nat) (vs : List V) (k : HE → Option α) : Option α :=
  match H[b.1]? with
  | some (.cells e row cs) => match b.2 with
    | 0 => match putC cs (i * row + off) vs with
      | some cs' => bif Nat.blt 0 cs.length then k (.cells e row cs') else none
      | none => none
    | _ + 1 => none
  | some (.list e t fs xs) => match b.2 with
    | 0 => match xs[i]? with
      | some x => match putC (t.cells fs x) off vs with
        | some cs' => match t.un1 fs cs' with
          | some y => k (.list e t fs (xs.set i y))
          | none => none
        | none => none
      | none => none
    | _ + 1 => none
  | some (.many e t xs) => match xs[b.2]? with
    | some ys => match ys[i]? with
      | some x => match putC (t.cells [] x) off vs with
        | some cs' => match t.un1 [] cs' with
          | some y => k (.many e t (xs.set b.2 (ys.set i y)))
          | none => none
        | none => none
      | none => none
    | none => none
  | _ => none
def rowSz (H : List HE) (F : Nat) : Nat :=
  match H[F]? with
  | some (.cells _ row _) => row
  | some (.list _ t _ _) => t.size
  | some (.many _ t _) => t.size
  | _ => 0
def lenAt (H : List HE) (b : Bid) : Option Nat :=
  match H[b.1]? with
  | some (.cells _ row cs) => match b.2, row with
    | 0, r + 1 => some (cs.length / (r + 1))
    | _, _ => none
  | some (.list _ _ _ xs) => match b.2 with
    | 0 => some xs.length
    | _ + 1 => none
  | some (.many _ _ xs) => match xs[b.2]? with
    | some ys => some ys.length
    | none => none
  | _ => none

def opLoad (M : Cfg) (S : St) (t : TypeId) (x : V) (k : Out → Option α) : Option α :=
  match x with
  | .ptr b i off => rowAt S.heap b i fun cs => match vpart M t cs off with
    | some v => k { v := v, rds := [b.1] }
    | none => none
  | .pin ty x => match x with
    | some y => match vpart M t (ty.cells [] y) 0 with
      | some v => k { v := v }
      | none => none
    | none => none
  | _ => none
def opStore (M : Cfg) (S : St) (t : TypeId) (x v : V) (k : Out → Option α) : Option α :=
  match x, M.P.info? t with
  | .ptr b i off, some ti => bif v.isA && Nat.beq v.cells.length ti.size && v.cells.all V.one then rowPut S.heap b i off v.cells fun he => k { v := .und, chg := [(b.1, he)] } else none
  | _, _ => none
def opField (M : Cfg) (S : St) (s : TypeId) (x : V) (f : Nat) (k : Out → Option α) : Option α :=
  match M.P.underlying s with
  | some (.struct fs) => match fs[f]? with
    | some fd => match M.P.info? fd.type with
      | some i => bif Nat.beq i.size 0 then none else match x with
        | .ptr b r off => bif aliveB S.heap b then k { v := .ptr b r (off + fd.offset), rds := [b.1] } else none
        | .pin ty y => match y with
          | some z => match ty.part z fd.offset i.size with
            | some ⟨t', p⟩ => k { v := .pin t' (some p) }
            | none => none
          | none => none
        | _ => none
      | none => none
    | none => none
  | _ => none
def inB (i : Value) (n : Nat) (k : Nat → Option α) : Option α :=
  match i with
  | .int _ j => bif decide (0 ≤ j) then (bif Nat.blt j.toNat n then k j.toNat else none) else none
  | _ => none
def opIndexAddr (M : Cfg) (S : St) (t : TypeId) (x : V) (i : Value) (k : Out → Option α) : Option α :=
  match M.P.underlying t with
  | some (.slice e) => match M.P.info? e with
    | some ti => match x with
      | .own b => match lenAt S.heap b with
        | some n => bif Nat.beq (rowSz S.heap b.1) ti.size then inB i n fun j => k { v := .ptr b j 0, rds := [b.1] } else none
        | none => none
      | .sub b lo n => bif aliveB S.heap b && Nat.beq (rowSz S.heap b.1) ti.size then inB i n fun j => k { v := .ptr b (lo + j) 0, rds := [b.1] } else none
      | .deep ty xs => match i with
        | .int _ j => bif decide (0 ≤ j) && Nat.beq ty.size ti.size then (match xs[j.toNat]? with
          | some y => k { v := .pin ty (some y) }
          | none => none) else none
        | _ => none
      | _ => none
    | none => none
  | some (.array len e) => match M.P.info? e, x with
    | some ti, .ptr b r off => bif aliveB S.heap b then inB i len fun j => k { v := .ptr b r (off + j * ti.size), rds := [b.1] } else none
    | _, _ => none
  | _ => none
def opIndex (M : Cfg) (t : TypeId) (x : V) (i : Value) (k : Out → Option α) : Option α :=
  match M.P.underlying t, x with
  | some .string, .lf (.string s) => inB i s.size fun j => k { v := .lf (.int .u8 ((s[j]?).getD 0).toNat) }
  | some (.array len e), .agg cs => match M.P.info? e with
    | some ti => inB i len fun j => match vpart M e cs (j * ti.size) with
      | some v => k { v := v }
      | none => none
    | none => none
  | _, _ => none

def fillV (place : Nat → Option (Nat × Nat)) : List (Nat × Option V) → List V → Option (List V)
  | [], cs => some cs
  | (i, some v) :: r, cs => match place i with
    | some (off, n) => bif v.isA && Nat.beq v.cells.length n && v.cells.all V.one then (match putC cs off v.cells with
      | some cs' => fillV place r cs'
      | none => none) else none
    | none => none
  | (_, none) :: _, _ => none
def placesOf (M : Cfg) : List Field → Option (List (Nat × Nat))
  | [] => some []
  | f :: r => match M.P.info? f.type, placesOf M r with
    | some i, some l => some ((f.offset, i.size) :: l)
    | _, _ => none
def zeroOf (M : Cfg) (t : TypeId) : Option (List V) :=
  match M.P.info? t with
  | some i => match i.zero with
    | some z => match V.ofFlat z with
      | some v => some v.cells
      | none => none
    | none => none
  | none => none
def opBuild (M : Cfg) (S : St) (t : TypeId) (parts : List (Nat × Operand)) (k : Out → Option α) : Option α :=
  match M.P.underlying t, zeroOf M t with
  | some (.struct fs), some z => match placesOf M fs.toList with
    | some ps => match fillV (fun i => ps[i]?) (parts.map fun p => (p.1, S.ev p.2)) z with
      | some cs => k { v := .agg cs }
      | none => none
    | none => none
  | some (.array _ e), some z => match M.P.info? e with
    | some ti => match fillV (fun i => some (i * ti.size, ti.size)) (parts.map fun p => (p.1, S.ev p.2)) z with
      | some cs => k { v := .agg cs }
      | none => none
    | none => none
  | _, _ => none
def partsOk (size : Nat) : Nat → List (Nat × Option V) → Option (List V)
  | _, [] => some []
  | i, (j, some v) :: r => bif Nat.beq i j && v.isA && Nat.beq v.cells.length size && v.cells.all V.one then (match partsOk size (i + 1) r with | some vs => some (v.cells ++ vs) | none => none) else none
  | _, (_, none) :: _ => none
def opBuildSlice (M : Cfg) (S : St) (t : TypeId) (len : Nat) (parts : List (Nat × Operand)) (k : Out → Option α) : Option α :=
  match M.P.underlying t with
  | some (.slice e) => match M.P.info? e, zeroOf M e with
    | some ti, some z => match partsOk ti.size 0 (parts.map fun p => (p.1, S.ev p.2)) with
      | some cs => bif Nat.beq parts.length len && Nat.blt 0 ti.size && Nat.ble (len * ti.size) 16777216 && Nat.beq z.length ti.size
        then k { v := .own (S.heap.length, 0), chg := [(S.heap.length, .cells e ti.size cs)] } else none
      | none => none
    | _, _ => none
  | _ => none
def hasB (l : List Nat) (t : Nat) : Bool := l.any fun u => Nat.beq u t
def frzRows {T : Type} (f : List V → List Nat → Option (T × List V × List Nat)) : Nat → List V → List Nat → Option (List T × List Nat)
  | 0, _, _ => none
  | _ + 1, [], fz => some ([], fz)
  | n + 1, v :: vs, fz => match f (v :: vs) fz with
    | some (x, r, fz') => match frzRows f n r fz' with
      | some (xs, fz'') => some (x :: xs, fz'')
      | none => none
    | none => none
def unF (t : Ty) (vs : List V) (fz : List Nat) : Option (t.I × List V × List Nat) :=
  bif t.free then (match t.un [] vs with | some (x, r) => some (x, r, fz) | none => none) else none
def frzL (H : List HE) : (t : Ty) → List V → List Nat → Option (t.I × List V × List Nat)
  | .slice t, v :: r, fz => match v with
    | .own b => match b.2, H[b.1]? with
      | 0, some (.list _ t' _ xs) => match Ty.cast (F := List) t' t xs with
        | some ys => bif t.free then some (ys, r, b.1 :: fz) else none
        | none => none
      | 0, some (.cells _ row cs) => bif Nat.beq row t.size then (match frzRows (frzL H t) (cs.length + 1) cs fz with
        | some (ys, fz') => some (ys, r, b.1 :: fz')
        | none => none) else none
      | _, _ => none
    | .sub b lo n => match b.2, H[b.1]? with
      | 0, some (.list _ t' _ xs) => match Ty.cast (F := List) t' t xs with
        | some ys => bif t.free && Nat.ble (lo + n) ys.length then some ((ys.drop lo).take n, r, b.1 :: fz) else none
        | none => none
      | _, _ => none
    | v => unF (.slice t) (v :: r) fz
  | .ptr t, v :: r, fz => match v with
    | .ptr b i off => match b.2, i, off, H[b.1]? with
      | 0, 0, 0, some (.cells _ _ cs) => match frzL H t cs fz with
        | some (x, [], fz') => some (some x, r, b.1 :: fz')
        | _ => none
      | _, _, _, _ => none
    | v => unF (.ptr t) (v :: r) fz
  | .pair a b, vs, fz => match frzL H a vs fz with
    | some (x, r, fz') => match frzL H b r fz' with
      | some (y, r', fz'') => some ((x, y), r', fz'')
      | none => none
    | none => none
  | t, vs, fz => unF t vs fz
def frzOne (H : List HE) (T : Ty) (vs : List V) : Option (T.I × List Nat) :=
  match frzL H T vs [] with
  | some (x, [], F :: fz) => some (x, F :: fz)
  | _ => none
def frzPart (M : Cfg) (S : St) (t : TypeId) (len : Nat) (parts : List (Nat × Operand)) : Option Out :=
  match parts with
  | [(0, x)] => match S.ev x, M.P.underlying t with
    | some v, some (.slice e) => match M.P.info? e, zeroOf M e, M.frz e with
      | some ti, some z, some T => match frzOne S.heap T v.cells with
        | some (y, fz) => bif Nat.beq len 1 && Nat.beq ti.size T.size && Nat.beq z.length T.size && Nat.ble T.size 16777216 && v.isA && v.cells.all V.one && Nat.beq v.cells.length T.size then some { v := .own (S.heap.length, 0), chg := fz.map (fun G => (G, HE.dead)) ++ [(S.heap.length, .list e T [] [y])] } else none
        | none => none
      | _, _, _ => none
    | _, _ => none
  | _ => none
def frzStore (M : Cfg) (S : St) (t : TypeId) (x v : V) : Option (List V × List Nat) :=
  match x, M.frz t, M.P.info? t with
  | .ptr b i off, some T, some ti => match S.heap[b.1]? with
    | some (.list _ _ _ _) => match frzOne S.heap T v.cells with
      | some (y, fz) => bif v.isA && Nat.beq v.cells.length ti.size && Nat.beq T.size ti.size && v.cells.all V.one && !hasB fz b.1 then some (T.cells [] y, fz) else none
      | none => none
    | _ => none
  | _, _, _ => none
def opStore2 (M : Cfg) (S : St) (t : TypeId) (x v : V) (k : Out → Option α) : Option α :=
  match frzStore M S t x v with
  | some p => match x with
    | .ptr b i off => rowPut S.heap b i off p.1 fun he => k { v := .und, chg := p.2.map (fun G => (G, HE.dead)) ++ [(b.1, he)] }
    | _ => none
  | none => opStore M S t x v k
def opBuildSlice2 (M : Cfg) (S : St) (t : TypeId) (len : Nat) (parts : List (Nat × Operand)) (k : Out → Option α) : Option α :=
  match frzPart M S t len parts with
  | some o => k o
  | none => opBuildSlice M S t len parts k
def opMakeSlice (M : Cfg) (S : St) (t : TypeId) (len cap : Value) (k : Out → Option α) : Option α :=
  match M.P.underlying t with
  | some (.slice e) => match M.P.info? e, zeroOf M e, M.ty e, len, cap with
    | some ti, some z, some ty, .int _ n, .int _ m => match ty.un1 [] z with
      | some x => bif decide (0 ≤ n) && decide (n ≤ 100000) && (n == m) && Nat.blt 0 ti.size && Nat.beq z.length ti.size && Nat.ble ti.bytes 1000000000
        then k { v := .own (S.heap.length, 0), chg := [(S.heap.length, .list e ty [] (List.replicate n.toNat x))] } else none
      | none => none
    | _, _, _, _, _ => none
  | _ => none

def rowsOf (ty : Ty) (fs : List Nat) (row : Nat) (H : List HE) (x : V) (k : List ty.I → Option Nat → Option α) : Option α :=
  match x with
  | .lf (.slice none n _) => match n with
    | 0 => k [] none
    | _ + 1 => none
  | .deep t xs => match Ty.cast (F := List) t ty xs with
    | some ys => k ys none
    | none => none
  | .own b => match H[b.1]?, b.2 with
    | some (.list _ t fs' xs), 0 => match Ty.cast (F := List) t ty xs with
      | some ys => bif ty.free then k ys (some b.1) else none
      | none => none
    | some (.cells _ r cs), 0 => bif Nat.beq r row then (match ty.unRows fs (cs.length + 1) cs with
      | some ys => k ys (some b.1)
      | none => none) else none
    | some (.many _ t xss), i => match xss[i]? with
      | some xs => match Ty.cast (F := List) t ty xs with
        | some ys => bif ty.free then k ys (some b.1) else none
        | none => none
      | none => none
    | _, _ => none
  | .sub b lo n => match b.2, H[b.1]? with
    | 0, some (.list _ t fs' xs) => match Ty.cast (F := List) t ty xs with
      | some ys => bif ty.free && Nat.ble (lo + n) ys.length then k ((ys.drop lo).take n) (some b.1) else none
      | none => none
    | _, _ => none
  | _ => none
def bytesOf (s : ByteArray) : List Int := s.data.toList.map fun b => (b.toNat : Int)
def strOf (l : List Int) : ByteArray := ⟨(l.map fun n => UInt8.ofNat n.toNat).toArray⟩
def growTo (S : St) (e : TypeId) (ty : Ty) (fs : List Nat) (old : Option Nat) (rds : List Nat) (xs : List ty.I) (m : Nat) (k : Out → Option α) : Option α :=
  bif Nat.ble m 100000 then k { v := .own (S.heap.length, 0), chg := (match old with | some b => [(b, HE.dead)] | none => []) ++ [(S.heap.length, .list e ty fs xs)], rds := rds } else none
def baseOf (H : List HE) (e : TypeId) (ty : Ty) (row : Nat) (x : V) (k : (t : Ty) → List Nat → List t.I → Option Nat → Option α) : Option α :=
  match x with
  | .own b => match b.2, H[b.1]? with
    | 0, some (.list e0 tx fs xs) => bif Nat.beq e0 e && Nat.beq tx.size row then k tx fs xs (some b.1) else none
    | 0, some (.cells e0 r cs) => bif Nat.beq e0 e && Nat.beq r row && Nat.beq ty.size row then (match ty.unRows [] (cs.length + 1) cs with
      | some xs => k ty [] xs (some b.1)
      | none => none) else none
    | _, _ => none
  | .sub b lo n => match b.2, lo, H[b.1]? with
    | 0, 0, some (.list e0 tx fs xs) => bif Nat.beq e0 e && Nat.beq tx.size row && Nat.ble n xs.length then k tx fs (xs.take n) (some b.1) else none
    | _, _, _ => none
  | .lf (.slice none n c) => match n, c with
    | 0, 0 => bif Nat.beq ty.size row then k ty [] [] none else none
    | _, _ => none
  | _ => none
def apart2 : Option Nat → Option Nat → Bool
  | some a, some b => !Nat.beq a b
  | _, _ => true
def opAppend (M : Cfg) (S : St) (ts : List TypeId) (x y : V) (k : Out → Option α) : Option α :=
  match ts with
  | [t, t'] => match M.P.underlying t with
    | some (.slice e) => match M.P.info? e, zeroOf M e, M.ty e with
      | some ti, some z, some ty => bif Nat.blt 0 ti.size && Nat.beq z.length ti.size && Nat.ble ti.bytes 1000000000 && Nat.beq t t'
        then baseOf S.heap e ty ti.size x fun tx fs xs old => rowsOf tx fs ti.size S.heap y fun ys src => bif apart2 old src
          then growTo S e tx fs old (idOf src) (xs ++ ys) (xs.length + ys.length) k else none else none
      | _, _, _ => none
    | _ => none
  | _ => none
def opCopy (M : Cfg) (S : St) (ts : List TypeId) (x y : V) (k : Out → Option α) : Option α :=
  match ts with
  | t :: _ => match M.P.underlying t with
    | some (.slice e) => match M.P.info? e, x with
      | some ti, .own b => match b.2, S.heap[b.1]? with
        | 0, some (.list e' ty fs xs) => rowsOf ty [] ti.size S.heap y fun ys src => bif Nat.beq ty.size ti.size && fs.isEmpty && apart2 (some b.1) src
          then k { v := .lf (.int .i64 ((min ys.length xs.length : Nat) : Int)), chg := [(b.1, .list e' ty fs (ys.take xs.length ++ xs.drop ys.length))], rds := idOf src } else none
        | _, _ => none
      | _, _ => none
    | _ => none
  | _ => none
def opLen (M : Cfg) (S : St) (ts : List TypeId) (x : V) (k : Out → Option α) : Option α :=
  match ts with
  | t :: _ => match M.P.underlying t with
    | some (.slice _) => match x with
      | .own b => match lenAt S.heap b with
        | some n => k { v := .lf (.int .i64 n), rds := [b.1] }
        | none => none
      | .sub b lo n => bif aliveB S.heap b then k { v := .lf (.int .i64 n), rds := [b.1] } else none
      | .deep _ xs => k { v := .lf (.int .i64 xs.length) }
      | .lf (.slice none n _) => k { v := .lf (.int .i64 n) }
      | _ => none
    | some .string => match x with
      | .lf (.string s) => k { v := .lf (.int .i64 s.size) }
      | _ => none
    | _ => none
  | _ => none
def optInt : Option V → Nat → Option Int
  | none, d => some d
  | some (.lf (.int _ n)), _ => some n
  | _, _ => none
def opSlice (M : Cfg) (S : St) (t : TypeId) (x : V) (lo hi : Option V) (k : Out → Option α) : Option α :=
  match M.P.underlying t with
  | some (.slice e) => match M.P.info? e with
    | some ti => match x with
      | .deep ty xs => match optInt lo 0, optInt hi xs.length with
        | some l, some h => bif decide (0 ≤ l) && decide (l ≤ h) && decide (h ≤ xs.length) && Nat.beq ty.size ti.size then k { v := .deep ty ((xs.take h.toNat).drop l.toNat) } else none
        | _, _ => none
      | .own b => match lenAt S.heap b with
        | some n => match optInt lo 0, optInt hi n with
          | some l, some h => bif Nat.beq (rowSz S.heap b.1) ti.size && decide (0 ≤ l) && decide (l ≤ h) && decide (h ≤ n) then k { v := .sub b l.toNat (h.toNat - l.toNat), rds := [b.1] } else none
          | _, _ => none
        | none => none
      | .sub b l0 n => match optInt lo 0, optInt hi n with
        | some l, some h => bif aliveB S.heap b && Nat.beq (rowSz S.heap b.1) ti.size && decide (0 ≤ l) && decide (l ≤ h) && decide (h ≤ n) then k { v := .sub b (l0 + l.toNat) (h.toNat - l.toNat), rds := [b.1] } else none
        | _, _ => none
      | .lf (.slice none n c) => match n, c, optInt lo 0, optInt hi 0 with
        | 0, 0, some l, some h => bif decide (l = 0) && decide (h = 0) then k { v := x } else none
        | _, _, _, _ => none
      | _ => none
    | none => none
  | _ => none
def opConvert (M : Cfg) (S : St) (o : Oper) (src dst : TypeId) (x : V) (k : Out → Option α) : Option α :=
  match x with
  | .deep ty xs => match M.P.underlying src, M.P.underlying dst with
    | some (.slice e), some .string => match M.P.underlying e, Ty.cast (F := List) ty (.int .u8) xs with
      | some (.int .u8), some ys => k { v := .lf (.string (strOf ys)) }
      | _, _ => none
    | _, _ => none
  | .own b => match M.P.underlying src, M.P.underlying dst with
    | some (.slice e), some .string => match M.P.underlying e with
      | some (.int .u8) => rowsOf (.int .u8) [] 1 S.heap x fun ys src => k { v := .lf (.string (strOf ys)), rds := idOf src }
      | _ => none
    | some (.slice _), some (.slice e) => match M.P.underlying e with
      | some (.int .u8) => match b.2, S.heap[b.1]? with
        | 0, some (.cells _ row cs) => match (Ty.int .u8).unRows [] (cs.length + 1) cs with
          | some (y :: ys) => bif Nat.beq src dst && Nat.beq row 1 then k { v := .deep (.int .u8) (y :: ys), chg := [(b.1, .dead)] } else none
          | _ => none
        | _, _ => none
      | _ => none
    | _, _ => none
  | .lf (.string s) => match M.P.underlying src, M.P.underlying dst with
    | some .string, some (.slice e) => match M.P.underlying e with
      | some (.int .u8) => bif Nat.ble s.size 100000 then k { v := .deep (.int .u8) (bytesOf s) } else none
      | _ => none
    | _, _ => opGen M S o k
  | _ => opGen M S o k
def opIface (M : Cfg) (S : St) (t : TypeId) (x : V) (k : Out → Option α) : Option α :=
  match x with
  | .lf (.int .i64 n) => match M.P.underlying t with
    | some (.int _) => bif Nat.beq t M.errno then k { v := .err (.no n) } else none
    | _ => none
  | .ptr b i off => match M.P.underlying t with
    | some (.pointer _) => bif Nat.beq t M.placed && Nat.beq i 0 && Nat.beq off 0 then (match b.2, S.heap[b.1]? with
      | 0, some (.cells _ _ cs) => match Ty.un1 [] (.pair (.int .i64) .err) cs with
        | some p => k { v := .err (.at p.1 p.2), chg := [(b.1, .dead)] }
        | none => none
      | _, _ => none) else none
    | _ => none
  | _ => none

abbrev CallsBy (α : Type) := FuncId → List V → List HE → (Out → Option α) → Option α

def opCall (M : Cfg) (C : CallsBy α) (S : St) (o : Oper) (c : Call) (k : Out → Option α) : Option α :=
  match c.callee with
  | .value f => match S.ev f, S.evs c.args.toList with
    | some (.fn (.func g) first captured), some vs => C g (first ++ vs ++ captured) S.heap k
    | _, _ => none
  | .builtin .len => match S.evs c.args.toList with
    | some [x] => opLen M S c.argTypes.toList x k
    | _ => none
  | .builtin .append => match S.evs c.args.toList with
    | some [x, y] => opAppend M S c.argTypes.toList x y k
    | _ => none
  | .builtin .copy => match S.evs c.args.toList with
    | some [x, y] => opCopy M S c.argTypes.toList x y k
    | _ => none
  | .builtin .min => opGen M S o k
  | .builtin .max => opGen M S o k
  | _ => none

def vop (M : Cfg) (C : CallsBy α) (E : EqBy) (S : St) (o : Oper) (k : Out → Option α) : Option α :=
  match o.op with
  | .move x => match S.ev x with | some v => k { v := v } | none => none
  | .assign x => match S.ev x with | some v => k { v := v } | none => none
  | .pick c x y => match S.ev c with
    | some (.lf (.bool t)) => bif t
      then (match S.ev x with | some v => k { v := v } | none => none)
      else (match S.ev y with | some v => k { v := v } | none => none)
    | _ => none
  | .alloc t => match zeroOf M t with
    | some cs => k { v := .ptr (S.heap.length, 0) 0 0, chg := [(S.heap.length, .cells t 0 cs)] }
    | none => none
  | .box t x => match S.ev x with
    | some v => bif v.isA && v.cells.all V.one then k { v := .ptr (S.heap.length, 0) 0 0, chg := [(S.heap.length, .cells t 0 v.cells)] } else none
    | none => none
  | .build t parts => opBuild M S t parts.toList k
  | .buildSlice t len parts => opBuildSlice2 M S t len parts.toList k
  | .load t x => match S.ev x with | some v => opLoad M S t v k | none => none
  | .store t x y => match S.ev x, S.ev y with | some u, some v => opStore2 M S t u v k | _, _ => none
  | .nilCheck x => match S.ev x with
    | some (.ptr b i off) => bif aliveB S.heap b then k { v := .ptr b i off, rds := [b.1] } else none
    | some (.pin t y) => match y with
      | some z => k { v := .pin t (some z) }
      | none => none
    | some (.fn f first captured) => match f with
      | .func g => k { v := .fn (.func g) first captured }
      | _ => none
    | _ => none
  | .binOp op t x y _ => match op with
    | .quo => match S.ev x, S.ev y with | some (.lf u), some (.lf v) => opDiv .quo u v k | _, _ => none
    | .rem => match S.ev x, S.ev y with | some (.lf u), some (.lf v) => opDiv .rem u v k | _, _ => none
    | .shl => match S.ev x, S.ev y with | some (.lf u), some (.lf v) => opSh .shl u v k | _, _ => none
    | .shr => match S.ev x, S.ev y with | some (.lf u), some (.lf v) => opSh .shr u v k | _, _ => none
    | .eql => opEq M E S o t x y false k
    | .neq => opEq M E S o t x y true k
    | _ => opGen M S o k
  | .unOp _ _ _ => opGen M S o k
  | .convert src dst x => match S.ev x with | some v => opConvert M S o src dst v k | none => none
  | .makeInterface t x => match S.ev x with | some v => opIface M S t v k | none => none
  | .makeFunc fn first captured => match S.evs first.toList, S.evs captured.toList with
    | some fs, some cs => k { v := .fn fn fs cs }
    | _, _ => none
  | .makeSlice t len cap => match S.ev len, S.ev cap with | some (.lf n), some (.lf m) => opMakeSlice M S t n m k | _, _ => none
  | .slice t x lo hi mx => match mx with
    | none => match S.ev x, lo.map S.ev, hi.map S.ev with
      | some v, none, none => opSlice M S t v none none k
      | some v, some (some l), none => opSlice M S t v (some l) none k
      | some v, none, some (some h) => opSlice M S t v none (some h) k
      | some v, some (some l), some (some h) => opSlice M S t v (some l) (some h) k
      | _, _, _ => none
    | some _ => none
  | .fieldAddr s x f => match S.ev x with | some v => opField M S s v f k | none => none
  | .field t x f => match S.ev x, M.P.underlying t with
    | some (.agg cs), some (.struct fs) => match fs[f]? with
      | some fd => match vpart M fd.type cs fd.offset with
        | some v => k { v := v }
        | none => none
      | none => none
    | _, _ => none
  | .indexAddr t x i => match S.ev x, S.ev i with | some u, some (.lf v) => opIndexAddr M S t u v k | _, _ => none
  | .index t x i => match S.ev x, S.ev i with | some u, some (.lf v) => opIndex M t u v k | _, _ => none
  | .extract x i => match S.ev x with
    | some (.tup vs) => match vs[i]? with | some v => k { v := v } | none => none
    | _ => none
  | .call c => opCall M C S o c k
  | _ => none

structure Rec where
  puts : List Nat
  rds : List Nat
def recOf (out : Out) : Rec := { puts := out.chg.map (·.1), rds := out.rds }
def skipOut : Out := { v := .und }
def chgOk : Nat → List (Nat × HE) → Bool
  | _, [] => true
  | n, (F, _) :: r => bif Nat.blt F n then chgOk n r else Nat.beq F n && chgOk (n + 1) r
def nodupB : List (Nat × HE) → Bool
  | [] => true
  | (F, _) :: r => !hasB (r.map (·.1)) F && nodupB r
def outOk (S : St) (out : Out) : Bool := chgOk S.heap.length out.chg && nodupB out.chg

def vseq (M : Cfg) (C : CallsBy α) (E : EqBy) (ops : Array Oper) : List Oper → St → List Rec → (St → List Rec → Option α) → Option α
  | [], S, rs, k => k S rs
  | o :: rest, S, rs, k =>
    bif S.dstOk o then
      match o.guard with
      | none => vop M C E S o fun out => bif outOk S out then vseq M C E ops rest (S.put o out) (rs ++ [recOf out]) k else none
      | some (j, want) => match (ops[j]?).bind (·.dst) with
        | some d => match look S.env d with
          | some (.lf (.bool g)) => bif g
            then (bif want
              then vop M C E (S.know d (.lf (.bool true))) o fun out => bif outOk S out then vseq M C E ops rest ((S.know d (.lf (.bool true))).put o out) (rs ++ [recOf out]) k else none
              else vseq M C E ops rest ((S.know d (.lf (.bool true))).put o skipOut) (rs ++ [recOf skipOut]) k)
            else (bif want
              then vseq M C E ops rest ((S.know d (.lf (.bool false))).put o skipOut) (rs ++ [recOf skipOut]) k
              else vop M C E (S.know d (.lf (.bool false))) o fun out => bif outOk S out then vseq M C E ops rest ((S.know d (.lf (.bool false))).put o out) (rs ++ [recOf out]) k else none)
          | some (.tup _) => vseq M C E ops rest (S.put o skipOut) (rs ++ [recOf skipOut]) k
          | _ => none
        | none => none
    else none
end Go.Proofs.YtdjkdmjdcdljmaaGreatX
