/-
  No cell of these rows narrows 'for every input' (looked for: loops, veiled, ifaces, maps, wideKeys, modest, calm, conditions, laid).
  DERIVED. THE GIVEN ROWS OF THIS SEAT. 5 by the template 'for every input the law returns true; each argument reads behind the call as it read before'; 0 by the template 'total and deterministic' (their statements: YtcgjfkaipbhpkaaTotals.lean).
  GIVEN WITH THE SEED: the statements are not yours to turn. If you find one false, say at which input.
  Laid BY PROGRAM, IN A SANDBOX (cutbox-rows.mjs): the forced cells as the released guide's own fill.sh prints them over the translation 067032995e8dcf8f… (all of the seat's roots in one cut). By AI agents, Wed Nov 11 2026. No macro, syntax, notation, axiom, sorry.
-/
import Derived.Test.YtcgjfkaipbhpkaaChecked
import GoSem.Claim
import GoSem.ClaimJoined
import GoSem.ClaimMapViews
import Derived.JoinedTies
import Derived.KernelRfl
namespace Go.Proofs.Ytcgjfkaipbhpkaa
/- THE CELL 'sum', in the pinned program and in every row, IS THE sha256 OF THE DUMP (.gsa) THAT YtcgjfkaipbhpkaaProg.lean LOADS. Nothing in Lean hashes anything: it is a label: what it is worth is what the hold of that sum in a sandbox is worth. -/
noncomputable def Try.pinned : Pinned := { name := "ytcgjfkaipbhpkaa", sum := "067032995e8dcf8f69ae0bcd585b3a39642a5d9a3fa42c76165f67674f9a6857", checked := Try.checked }
namespace Rows
def none {H : Type} : Left H := { results := [], args := [] }

/-- 'avermentlaw12.FactJoins': WHATEVER THE INPUT: true; the input reads as it did. -/
def factJoinsSpec : ChangeSpec := { name := "factJoins", fn := fun _ => fun
  | [d1, d2, d3] => { results := [.lit (.bool true)], args := [d1, d2, d3] }
  | _ => none }
def factJoinsRow : OpenClaim := { program := "ytcgjfkaipbhpkaa", sum := "067032995e8dcf8f69ae0bcd585b3a39642a5d9a3fa42c76165f67674f9a6857", func := "averment/avermentlaw12.FactJoins", spec := "factJoins", apart := false }
def FactJoinsSaid : Prop := factJoinsRow.holds Try.pinned (OpenSpec.ofChange factJoinsSpec)

/-- ITS FALSE NEIGHBOUR: 'it returns false'. Refute it at one input. -/
def factJoinsWrong : ChangeSpec := { name := "factJoins", fn := fun _ => fun
  | [d1, d2, d3] => { results := [.lit (.bool false)], args := [d1, d2, d3] }
  | _ => none }
def FactJoinsWrongFalsely : Prop := factJoinsRow.holds Try.pinned (OpenSpec.ofChange factJoinsWrong)

/-- 'avermentlaw12.FactWidens': WHATEVER THE INPUT: true; the input reads as it did. -/
def factWidensSpec : ChangeSpec := { name := "factWidens", fn := fun _ => fun
  | [d1, d2] => { results := [.lit (.bool true)], args := [d1, d2] }
  | _ => none }
def factWidensRow : OpenClaim := { program := "ytcgjfkaipbhpkaa", sum := "067032995e8dcf8f69ae0bcd585b3a39642a5d9a3fa42c76165f67674f9a6857", func := "averment/avermentlaw12.FactWidens", spec := "factWidens", apart := false }
def FactWidensSaid : Prop := factWidensRow.holds Try.pinned (OpenSpec.ofChange factWidensSpec)

/-- ITS FALSE NEIGHBOUR: 'it returns false'. Refute it at one input. -/
def factWidensWrong : ChangeSpec := { name := "factWidens", fn := fun _ => fun
  | [d1, d2] => { results := [.lit (.bool false)], args := [d1, d2] }
  | _ => none }
def FactWidensWrongFalsely : Prop := factWidensRow.holds Try.pinned (OpenSpec.ofChange factWidensWrong)

/-- 'avermentlaw12.FactSets': WHATEVER THE INPUT: true; the input reads as it did. -/
def factSetsSpec : ChangeSpec := { name := "factSets", fn := fun _ => fun
  | [d1, d2, d3] => { results := [.lit (.bool true)], args := [d1, d2, d3] }
  | _ => none }
def factSetsRow : OpenClaim := { program := "ytcgjfkaipbhpkaa", sum := "067032995e8dcf8f69ae0bcd585b3a39642a5d9a3fa42c76165f67674f9a6857", func := "averment/avermentlaw12.FactSets", spec := "factSets", apart := false }
def FactSetsSaid : Prop := factSetsRow.holds Try.pinned (OpenSpec.ofChange factSetsSpec)

/-- ITS FALSE NEIGHBOUR: 'it returns false'. Refute it at one input. -/
def factSetsWrong : ChangeSpec := { name := "factSets", fn := fun _ => fun
  | [d1, d2, d3] => { results := [.lit (.bool false)], args := [d1, d2, d3] }
  | _ => none }
def FactSetsWrongFalsely : Prop := factSetsRow.holds Try.pinned (OpenSpec.ofChange factSetsWrong)

/-- 'avermentlaw12.FactSound': WHATEVER THE INPUT: true; the input reads as it did. -/
def factSoundSpec : ChangeSpec := { name := "factSound", fn := fun _ => fun
  | [d1, d2, d3] => { results := [.lit (.bool true)], args := [d1, d2, d3] }
  | _ => none }
def factSoundRow : OpenClaim := { program := "ytcgjfkaipbhpkaa", sum := "067032995e8dcf8f69ae0bcd585b3a39642a5d9a3fa42c76165f67674f9a6857", func := "averment/avermentlaw12.FactSound", spec := "factSound", recurses := true, apart := false }
def FactSoundSaid : Prop := factSoundRow.holds Try.pinned (OpenSpec.ofChange factSoundSpec)

/-- ITS FALSE NEIGHBOUR: 'it returns false'. Refute it at one input. -/
def factSoundWrong : ChangeSpec := { name := "factSound", fn := fun _ => fun
  | [d1, d2, d3] => { results := [.lit (.bool false)], args := [d1, d2, d3] }
  | _ => none }
def FactSoundWrongFalsely : Prop := factSoundRow.holds Try.pinned (OpenSpec.ofChange factSoundWrong)

/-- 'avermentlaw12.FactRises': WHATEVER THE INPUT: true; the input reads as it did. -/
def factRisesSpec : ChangeSpec := { name := "factRises", fn := fun _ => fun
  | [d1, d2, d3] => { results := [.lit (.bool true)], args := [d1, d2, d3] }
  | _ => none }
def factRisesRow : OpenClaim := { program := "ytcgjfkaipbhpkaa", sum := "067032995e8dcf8f69ae0bcd585b3a39642a5d9a3fa42c76165f67674f9a6857", func := "averment/avermentlaw12.FactRises", spec := "factRises", recurses := true, apart := false }
def FactRisesSaid : Prop := factRisesRow.holds Try.pinned (OpenSpec.ofChange factRisesSpec)

/-- ITS FALSE NEIGHBOUR: 'it returns false'. Refute it at one input. -/
def factRisesWrong : ChangeSpec := { name := "factRises", fn := fun _ => fun
  | [d1, d2, d3] => { results := [.lit (.bool false)], args := [d1, d2, d3] }
  | _ => none }
def FactRisesWrongFalsely : Prop := factRisesRow.holds Try.pinned (OpenSpec.ofChange factRisesWrong)

/- THE SECOND FORM. 'bulk': how many values and letters a reading holds, each counted each time it is reached (what is shared counts as often as it is met; a slice's spare places count too). A statement '..UptoSaid' is the law's where the arguments, and the package variables that the reading takes, are together of bulk at most 1048576: NARROWER than '..Said'. Prove '..Said' where nothing that the law and all that it calls make is longer than what came in: it says more and counts as full. Else prove '..UptoSaid'. A law counts once. -/
mutual
def uptoBulk {H : Type} : DataW H → Nat
  | .lit (.string bytes) => bytes.length + 1
  | .lit _ => 1
  | .nil => 1
  | .ptr d => uptoBulk d + 1
  | .slice elems spare => uptoBulkAll elems + uptoBulkAll spare + 1
  | .agg parts => uptoBulkAll parts + 1
  | .iface _ d => uptoBulk d + 1
  | .map entries => uptoBulkEntries entries + 1
  | .held _ => 1
def uptoBulkAll {H : Type} : List (DataW H) → Nat
  | [] => 0
  | d :: r => uptoBulk d + uptoBulkAll r
def uptoBulkEntries {H : Type} : List (Lit × DataW H) → Nat
  | [] => 0
  | x :: r => uptoBulkEntry x + uptoBulkEntries r
def uptoBulkEntry {H : Type} : Lit × DataW H → Nat
  | (.string bytes, d) => bytes.length + uptoBulk d + 1
  | (_, d) => uptoBulk d + 1
 end
def uptoSmall : (H : Type) → List (DataW H) → Bool := fun _ ds => decide (uptoBulkAll ds ≤ 1048576)
def OpenSpec.upto (s : _root_.Go.ChangeSpec) : _root_.Go.OpenSpec := { _root_.Go.OpenSpec.ofChange s with cond := some uptoSmall }

/-- 'avermentlaw12.FactJoins', WHERE WHAT IT READS IS OF BULK AT MOST 1048576: true; the input reads as it did. -/
def factJoinsUptoRow : OpenClaim := { program := "ytcgjfkaipbhpkaa", sum := "067032995e8dcf8f69ae0bcd585b3a39642a5d9a3fa42c76165f67674f9a6857", func := "averment/avermentlaw12.FactJoins", spec := "factJoins", apart := false, narrowed := true }
def FactJoinsUptoSaid : Prop := factJoinsUptoRow.holds Try.pinned (OpenSpec.upto factJoinsSpec)

/-- 'avermentlaw12.FactWidens', WHERE WHAT IT READS IS OF BULK AT MOST 1048576: true; the input reads as it did. -/
def factWidensUptoRow : OpenClaim := { program := "ytcgjfkaipbhpkaa", sum := "067032995e8dcf8f69ae0bcd585b3a39642a5d9a3fa42c76165f67674f9a6857", func := "averment/avermentlaw12.FactWidens", spec := "factWidens", apart := false, narrowed := true }
def FactWidensUptoSaid : Prop := factWidensUptoRow.holds Try.pinned (OpenSpec.upto factWidensSpec)

/-- 'avermentlaw12.FactSets', WHERE WHAT IT READS IS OF BULK AT MOST 1048576: true; the input reads as it did. -/
def factSetsUptoRow : OpenClaim := { program := "ytcgjfkaipbhpkaa", sum := "067032995e8dcf8f69ae0bcd585b3a39642a5d9a3fa42c76165f67674f9a6857", func := "averment/avermentlaw12.FactSets", spec := "factSets", apart := false, narrowed := true }
def FactSetsUptoSaid : Prop := factSetsUptoRow.holds Try.pinned (OpenSpec.upto factSetsSpec)

/-- 'avermentlaw12.FactSound', WHERE WHAT IT READS IS OF BULK AT MOST 1048576: true; the input reads as it did. -/
def factSoundUptoRow : OpenClaim := { program := "ytcgjfkaipbhpkaa", sum := "067032995e8dcf8f69ae0bcd585b3a39642a5d9a3fa42c76165f67674f9a6857", func := "averment/avermentlaw12.FactSound", spec := "factSound", recurses := true, apart := false, narrowed := true }
def FactSoundUptoSaid : Prop := factSoundUptoRow.holds Try.pinned (OpenSpec.upto factSoundSpec)

/-- 'avermentlaw12.FactRises', WHERE WHAT IT READS IS OF BULK AT MOST 1048576: true; the input reads as it did. -/
def factRisesUptoRow : OpenClaim := { program := "ytcgjfkaipbhpkaa", sum := "067032995e8dcf8f69ae0bcd585b3a39642a5d9a3fa42c76165f67674f9a6857", func := "averment/avermentlaw12.FactRises", spec := "factRises", recurses := true, apart := false, narrowed := true }
def FactRisesUptoSaid : Prop := factRisesUptoRow.holds Try.pinned (OpenSpec.upto factRisesSpec)

end Rows
end Go.Proofs.Ytcgjfkaipbhpkaa
