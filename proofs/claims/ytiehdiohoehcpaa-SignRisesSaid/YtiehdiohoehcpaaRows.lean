/-
  No cell of these rows narrows 'for every input' (looked for: loops, veiled, ifaces, maps, wideKeys, modest, calm, conditions, laid).
  DERIVED. THE GIVEN ROWS OF THIS SEAT. 10 by the template 'for every input the law returns true; each argument reads behind the call as it read before'; 0 by the template 'total and deterministic' (their statements: YtiehdiohoehcpaaTotals.lean).
  GIVEN WITH THE SEED: the statements are not yours to turn. If you find one false, say at which input.
  Laid BY PROGRAM, IN A SANDBOX (cutbox-rows.mjs): the forced cells as the released guide's own fill.sh prints them over the translation f8e40db7823d77db… (all of the seat's roots in one cut). By AI agents, Wed Nov 11 2026. No macro, syntax, notation, axiom, sorry.
-/
import Derived.Test.YtiehdiohoehcpaaChecked
import GoSem.Claim
import GoSem.ClaimJoined
import GoSem.ClaimMapViews
import Derived.JoinedTies
import Derived.KernelRfl
namespace Go.Proofs.Ytiehdiohoehcpaa
/- THE CELL 'sum', in the pinned program and in every row, IS THE sha256 OF THE DUMP (.gsa) THAT YtiehdiohoehcpaaProg.lean LOADS. Nothing in Lean hashes anything: it is a label: what it is worth is what the hold of that sum in a sandbox is worth. -/
noncomputable def Try.pinned : Pinned := { name := "ytiehdiohoehcpaa", sum := "f8e40db7823d77dbf29629b918db2bce22908808dba4e04260b2164c0b7c642e", checked := Try.checked }
namespace Rows
def none {H : Type} : Left H := { results := [], args := [] }

/-- 'avermentlaw08.SignSets': WHATEVER THE INPUT: true; the input reads as it did. -/
def signSetsSpec : ChangeSpec := { name := "signSets", fn := fun _ => fun
  | [d1, d2, d3] => { results := [.lit (.bool true)], args := [d1, d2, d3] }
  | _ => none }
def signSetsRow : OpenClaim := { program := "ytiehdiohoehcpaa", sum := "f8e40db7823d77dbf29629b918db2bce22908808dba4e04260b2164c0b7c642e", func := "averment/avermentlaw08.SignSets", spec := "signSets", apart := false }
def SignSetsSaid : Prop := signSetsRow.holds Try.pinned (OpenSpec.ofChange signSetsSpec)

/-- ITS FALSE NEIGHBOUR: 'it returns false'. Refute it at one input. -/
def signSetsWrong : ChangeSpec := { name := "signSets", fn := fun _ => fun
  | [d1, d2, d3] => { results := [.lit (.bool false)], args := [d1, d2, d3] }
  | _ => none }
def SignSetsWrongFalsely : Prop := signSetsRow.holds Try.pinned (OpenSpec.ofChange signSetsWrong)

/-- 'avermentlaw11.ParitySets': WHATEVER THE INPUT: true; the input reads as it did. -/
def paritySetsSpec : ChangeSpec := { name := "paritySets", fn := fun _ => fun
  | [d1, d2, d3] => { results := [.lit (.bool true)], args := [d1, d2, d3] }
  | _ => none }
def paritySetsRow : OpenClaim := { program := "ytiehdiohoehcpaa", sum := "f8e40db7823d77dbf29629b918db2bce22908808dba4e04260b2164c0b7c642e", func := "averment/avermentlaw11.ParitySets", spec := "paritySets", apart := false }
def ParitySetsSaid : Prop := paritySetsRow.holds Try.pinned (OpenSpec.ofChange paritySetsSpec)

/-- ITS FALSE NEIGHBOUR: 'it returns false'. Refute it at one input. -/
def paritySetsWrong : ChangeSpec := { name := "paritySets", fn := fun _ => fun
  | [d1, d2, d3] => { results := [.lit (.bool false)], args := [d1, d2, d3] }
  | _ => none }
def ParitySetsWrongFalsely : Prop := paritySetsRow.holds Try.pinned (OpenSpec.ofChange paritySetsWrong)

/-- 'avermentlaw11.ParityMakes': WHATEVER THE INPUT: true; the input reads as it did. -/
def parityMakesSpec : ChangeSpec := { name := "parityMakes", fn := fun _ => fun
  | [d1, d2, d3] => { results := [.lit (.bool true)], args := [d1, d2, d3] }
  | _ => none }
def parityMakesRow : OpenClaim := { program := "ytiehdiohoehcpaa", sum := "f8e40db7823d77dbf29629b918db2bce22908808dba4e04260b2164c0b7c642e", func := "averment/avermentlaw11.ParityMakes", spec := "parityMakes", apart := false }
def ParityMakesSaid : Prop := parityMakesRow.holds Try.pinned (OpenSpec.ofChange parityMakesSpec)

/-- ITS FALSE NEIGHBOUR: 'it returns false'. Refute it at one input. -/
def parityMakesWrong : ChangeSpec := { name := "parityMakes", fn := fun _ => fun
  | [d1, d2, d3] => { results := [.lit (.bool false)], args := [d1, d2, d3] }
  | _ => none }
def ParityMakesWrongFalsely : Prop := parityMakesRow.holds Try.pinned (OpenSpec.ofChange parityMakesWrong)

/-- 'avermentlaw11.ParitySound': WHATEVER THE INPUT: true; the input reads as it did. -/
def paritySoundSpec : ChangeSpec := { name := "paritySound", fn := fun _ => fun
  | [d1, d2, d3] => { results := [.lit (.bool true)], args := [d1, d2, d3] }
  | _ => none }
def paritySoundRow : OpenClaim := { program := "ytiehdiohoehcpaa", sum := "f8e40db7823d77dbf29629b918db2bce22908808dba4e04260b2164c0b7c642e", func := "averment/avermentlaw11.ParitySound", spec := "paritySound", apart := false }
def ParitySoundSaid : Prop := paritySoundRow.holds Try.pinned (OpenSpec.ofChange paritySoundSpec)

/-- ITS FALSE NEIGHBOUR: 'it returns false'. Refute it at one input. -/
def paritySoundWrong : ChangeSpec := { name := "paritySound", fn := fun _ => fun
  | [d1, d2, d3] => { results := [.lit (.bool false)], args := [d1, d2, d3] }
  | _ => none }
def ParitySoundWrongFalsely : Prop := paritySoundRow.holds Try.pinned (OpenSpec.ofChange paritySoundWrong)

/-- 'avermentlaw11.ParityTight': WHATEVER THE INPUT: true; the input reads as it did. -/
def parityTightSpec : ChangeSpec := { name := "parityTight", fn := fun _ => fun
  | [d1, d2, d3] => { results := [.lit (.bool true)], args := [d1, d2, d3] }
  | _ => none }
def parityTightRow : OpenClaim := { program := "ytiehdiohoehcpaa", sum := "f8e40db7823d77dbf29629b918db2bce22908808dba4e04260b2164c0b7c642e", func := "averment/avermentlaw11.ParityTight", spec := "parityTight", apart := false }
def ParityTightSaid : Prop := parityTightRow.holds Try.pinned (OpenSpec.ofChange parityTightSpec)

/-- ITS FALSE NEIGHBOUR: 'it returns false'. Refute it at one input. -/
def parityTightWrong : ChangeSpec := { name := "parityTight", fn := fun _ => fun
  | [d1, d2, d3] => { results := [.lit (.bool false)], args := [d1, d2, d3] }
  | _ => none }
def ParityTightWrongFalsely : Prop := parityTightRow.holds Try.pinned (OpenSpec.ofChange parityTightWrong)

/-- 'avermentlaw11.ParityRises': WHATEVER THE INPUT: true; the input reads as it did. -/
def parityRisesSpec : ChangeSpec := { name := "parityRises", fn := fun _ => fun
  | [d1, d2, d3] => { results := [.lit (.bool true)], args := [d1, d2, d3] }
  | _ => none }
def parityRisesRow : OpenClaim := { program := "ytiehdiohoehcpaa", sum := "f8e40db7823d77dbf29629b918db2bce22908808dba4e04260b2164c0b7c642e", func := "averment/avermentlaw11.ParityRises", spec := "parityRises", apart := false }
def ParityRisesSaid : Prop := parityRisesRow.holds Try.pinned (OpenSpec.ofChange parityRisesSpec)

/-- ITS FALSE NEIGHBOUR: 'it returns false'. Refute it at one input. -/
def parityRisesWrong : ChangeSpec := { name := "parityRises", fn := fun _ => fun
  | [d1, d2, d3] => { results := [.lit (.bool false)], args := [d1, d2, d3] }
  | _ => none }
def ParityRisesWrongFalsely : Prop := parityRisesRow.holds Try.pinned (OpenSpec.ofChange parityRisesWrong)

/-- 'avermentlaw08.SignTight': WHATEVER THE INPUT: true; the input reads as it did. -/
def signTightSpec : ChangeSpec := { name := "signTight", fn := fun _ => fun
  | [d1, d2, d3] => { results := [.lit (.bool true)], args := [d1, d2, d3] }
  | _ => none }
def signTightRow : OpenClaim := { program := "ytiehdiohoehcpaa", sum := "f8e40db7823d77dbf29629b918db2bce22908808dba4e04260b2164c0b7c642e", func := "averment/avermentlaw08.SignTight", spec := "signTight", apart := false }
def SignTightSaid : Prop := signTightRow.holds Try.pinned (OpenSpec.ofChange signTightSpec)

/-- ITS FALSE NEIGHBOUR: 'it returns false'. Refute it at one input. -/
def signTightWrong : ChangeSpec := { name := "signTight", fn := fun _ => fun
  | [d1, d2, d3] => { results := [.lit (.bool false)], args := [d1, d2, d3] }
  | _ => none }
def SignTightWrongFalsely : Prop := signTightRow.holds Try.pinned (OpenSpec.ofChange signTightWrong)

/-- 'avermentlaw08.SignMakes': WHATEVER THE INPUT: true; the input reads as it did. -/
def signMakesSpec : ChangeSpec := { name := "signMakes", fn := fun _ => fun
  | [d1, d2, d3] => { results := [.lit (.bool true)], args := [d1, d2, d3] }
  | _ => none }
def signMakesRow : OpenClaim := { program := "ytiehdiohoehcpaa", sum := "f8e40db7823d77dbf29629b918db2bce22908808dba4e04260b2164c0b7c642e", func := "averment/avermentlaw08.SignMakes", spec := "signMakes", apart := false }
def SignMakesSaid : Prop := signMakesRow.holds Try.pinned (OpenSpec.ofChange signMakesSpec)

/-- ITS FALSE NEIGHBOUR: 'it returns false'. Refute it at one input. -/
def signMakesWrong : ChangeSpec := { name := "signMakes", fn := fun _ => fun
  | [d1, d2, d3] => { results := [.lit (.bool false)], args := [d1, d2, d3] }
  | _ => none }
def SignMakesWrongFalsely : Prop := signMakesRow.holds Try.pinned (OpenSpec.ofChange signMakesWrong)

/-- 'avermentlaw08.SignSound': WHATEVER THE INPUT: true; the input reads as it did. -/
def signSoundSpec : ChangeSpec := { name := "signSound", fn := fun _ => fun
  | [d1, d2, d3] => { results := [.lit (.bool true)], args := [d1, d2, d3] }
  | _ => none }
def signSoundRow : OpenClaim := { program := "ytiehdiohoehcpaa", sum := "f8e40db7823d77dbf29629b918db2bce22908808dba4e04260b2164c0b7c642e", func := "averment/avermentlaw08.SignSound", spec := "signSound", apart := false }
def SignSoundSaid : Prop := signSoundRow.holds Try.pinned (OpenSpec.ofChange signSoundSpec)

/-- ITS FALSE NEIGHBOUR: 'it returns false'. Refute it at one input. -/
def signSoundWrong : ChangeSpec := { name := "signSound", fn := fun _ => fun
  | [d1, d2, d3] => { results := [.lit (.bool false)], args := [d1, d2, d3] }
  | _ => none }
def SignSoundWrongFalsely : Prop := signSoundRow.holds Try.pinned (OpenSpec.ofChange signSoundWrong)

/-- 'avermentlaw08.SignRises': WHATEVER THE INPUT: true; the input reads as it did. -/
def signRisesSpec : ChangeSpec := { name := "signRises", fn := fun _ => fun
  | [d1, d2, d3] => { results := [.lit (.bool true)], args := [d1, d2, d3] }
  | _ => none }
def signRisesRow : OpenClaim := { program := "ytiehdiohoehcpaa", sum := "f8e40db7823d77dbf29629b918db2bce22908808dba4e04260b2164c0b7c642e", func := "averment/avermentlaw08.SignRises", spec := "signRises", apart := false }
def SignRisesSaid : Prop := signRisesRow.holds Try.pinned (OpenSpec.ofChange signRisesSpec)

/-- ITS FALSE NEIGHBOUR: 'it returns false'. Refute it at one input. -/
def signRisesWrong : ChangeSpec := { name := "signRises", fn := fun _ => fun
  | [d1, d2, d3] => { results := [.lit (.bool false)], args := [d1, d2, d3] }
  | _ => none }
def SignRisesWrongFalsely : Prop := signRisesRow.holds Try.pinned (OpenSpec.ofChange signRisesWrong)

/- THE SECOND FORM. 'bulk': how many values and letters a reading holds, each counted each time it is reached (what is shared counts as often as it is met; a slice's spare places count too). A statement '..UptoSaid' is the law's where the arguments, and the package variables that the reading takes, are together of bulk at most 1048576: NARROWER than '..Said'. Prove '..Said' where nothing that the law and all that it calls make is longer than what came in: it says more and counts as full. Else prove '..UptoSaid'. A law counts once. -/
mutual
def uptoBulk {H : Type} : DataW H → Nat
  | .lit (.string bytes) => bytes.length + 1
  | .lit _ => 1
  | .nil => 1
  | .ptr d => uptoBulk d + 1
  | .slice elems spare => uptoBulkAll elems + uptoBulkAll spare + 1
  | .agg parts => uptoBulkAll parts + 1
  | .iface _ d => uptoBulk d + 1
  | .map entries => uptoBulkEntries entries + 1
  | .held _ => 1
def uptoBulkAll {H : Type} : List (DataW H) → Nat
  | [] => 0
  | d :: r => uptoBulk d + uptoBulkAll r
def uptoBulkEntries {H : Type} : List (Lit × DataW H) → Nat
  | [] => 0
  | x :: r => uptoBulkEntry x + uptoBulkEntries r
def uptoBulkEntry {H : Type} : Lit × DataW H → Nat
  | (.string bytes, d) => bytes.length + uptoBulk d + 1
  | (_, d) => uptoBulk d + 1
 end
def uptoSmall : (H : Type) → List (DataW H) → Bool := fun _ ds => decide (uptoBulkAll ds ≤ 1048576)
def OpenSpec.upto (s : _root_.Go.ChangeSpec) : _root_.Go.OpenSpec := { _root_.Go.OpenSpec.ofChange s with cond := some uptoSmall }

/-- 'avermentlaw08.SignSets', WHERE WHAT IT READS IS OF BULK AT MOST 1048576: true; the input reads as it did. -/
def signSetsUptoRow : OpenClaim := { program := "ytiehdiohoehcpaa", sum := "f8e40db7823d77dbf29629b918db2bce22908808dba4e04260b2164c0b7c642e", func := "averment/avermentlaw08.SignSets", spec := "signSets", apart := false, narrowed := true }
def SignSetsUptoSaid : Prop := signSetsUptoRow.holds Try.pinned (OpenSpec.upto signSetsSpec)

/-- 'avermentlaw11.ParitySets', WHERE WHAT IT READS IS OF BULK AT MOST 1048576: true; the input reads as it did. -/
def paritySetsUptoRow : OpenClaim := { program := "ytiehdiohoehcpaa", sum := "f8e40db7823d77dbf29629b918db2bce22908808dba4e04260b2164c0b7c642e", func := "averment/avermentlaw11.ParitySets", spec := "paritySets", apart := false, narrowed := true }
def ParitySetsUptoSaid : Prop := paritySetsUptoRow.holds Try.pinned (OpenSpec.upto paritySetsSpec)

/-- 'avermentlaw11.ParityMakes', WHERE WHAT IT READS IS OF BULK AT MOST 1048576: true; the input reads as it did. -/
def parityMakesUptoRow : OpenClaim := { program := "ytiehdiohoehcpaa", sum := "f8e40db7823d77dbf29629b918db2bce22908808dba4e04260b2164c0b7c642e", func := "averment/avermentlaw11.ParityMakes", spec := "parityMakes", apart := false, narrowed := true }
def ParityMakesUptoSaid : Prop := parityMakesUptoRow.holds Try.pinned (OpenSpec.upto parityMakesSpec)

/-- 'avermentlaw11.ParitySound', WHERE WHAT IT READS IS OF BULK AT MOST 1048576: true; the input reads as it did. -/
def paritySoundUptoRow : OpenClaim := { program := "ytiehdiohoehcpaa", sum := "f8e40db7823d77dbf29629b918db2bce22908808dba4e04260b2164c0b7c642e", func := "averment/avermentlaw11.ParitySound", spec := "paritySound", apart := false, narrowed := true }
def ParitySoundUptoSaid : Prop := paritySoundUptoRow.holds Try.pinned (OpenSpec.upto paritySoundSpec)

/-- 'avermentlaw11.ParityTight', WHERE WHAT IT READS IS OF BULK AT MOST 1048576: true; the input reads as it did. -/
def parityTightUptoRow : OpenClaim := { program := "ytiehdiohoehcpaa", sum := "f8e40db7823d77dbf29629b918db2bce22908808dba4e04260b2164c0b7c642e", func := "averment/avermentlaw11.ParityTight", spec := "parityTight", apart := false, narrowed := true }
def ParityTightUptoSaid : Prop := parityTightUptoRow.holds Try.pinned (OpenSpec.upto parityTightSpec)

/-- 'avermentlaw11.ParityRises', WHERE WHAT IT READS IS OF BULK AT MOST 1048576: true; the input reads as it did. -/
def parityRisesUptoRow : OpenClaim := { program := "ytiehdiohoehcpaa", sum := "f8e40db7823d77dbf29629b918db2bce22908808dba4e04260b2164c0b7c642e", func := "averment/avermentlaw11.ParityRises", spec := "parityRises", apart := false, narrowed := true }
def ParityRisesUptoSaid : Prop := parityRisesUptoRow.holds Try.pinned (OpenSpec.upto parityRisesSpec)

/-- 'avermentlaw08.SignTight', WHERE WHAT IT READS IS OF BULK AT MOST 1048576: true; the input reads as it did. -/
def signTightUptoRow : OpenClaim := { program := "ytiehdiohoehcpaa", sum := "f8e40db7823d77dbf29629b918db2bce22908808dba4e04260b2164c0b7c642e", func := "averment/avermentlaw08.SignTight", spec := "signTight", apart := false, narrowed := true }
def SignTightUptoSaid : Prop := signTightUptoRow.holds Try.pinned (OpenSpec.upto signTightSpec)

/-- 'avermentlaw08.SignMakes', WHERE WHAT IT READS IS OF BULK AT MOST 1048576: true; the input reads as it did. -/
def signMakesUptoRow : OpenClaim := { program := "ytiehdiohoehcpaa", sum := "f8e40db7823d77dbf29629b918db2bce22908808dba4e04260b2164c0b7c642e", func := "averment/avermentlaw08.SignMakes", spec := "signMakes", apart := false, narrowed := true }
def SignMakesUptoSaid : Prop := signMakesUptoRow.holds Try.pinned (OpenSpec.upto signMakesSpec)

/-- 'avermentlaw08.SignSound', WHERE WHAT IT READS IS OF BULK AT MOST 1048576: true; the input reads as it did. -/
def signSoundUptoRow : OpenClaim := { program := "ytiehdiohoehcpaa", sum := "f8e40db7823d77dbf29629b918db2bce22908808dba4e04260b2164c0b7c642e", func := "averment/avermentlaw08.SignSound", spec := "signSound", apart := false, narrowed := true }
def SignSoundUptoSaid : Prop := signSoundUptoRow.holds Try.pinned (OpenSpec.upto signSoundSpec)

/-- 'avermentlaw08.SignRises', WHERE WHAT IT READS IS OF BULK AT MOST 1048576: true; the input reads as it did. -/
def signRisesUptoRow : OpenClaim := { program := "ytiehdiohoehcpaa", sum := "f8e40db7823d77dbf29629b918db2bce22908808dba4e04260b2164c0b7c642e", func := "averment/avermentlaw08.SignRises", spec := "signRises", apart := false, narrowed := true }
def SignRisesUptoSaid : Prop := signRisesUptoRow.holds Try.pinned (OpenSpec.upto signRisesSpec)

end Rows
end Go.Proofs.Ytiehdiohoehcpaa
