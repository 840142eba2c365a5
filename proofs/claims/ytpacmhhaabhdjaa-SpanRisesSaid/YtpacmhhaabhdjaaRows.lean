/-
  No cell of these rows narrows 'for every input' (looked for: loops, veiled, ifaces, maps, wideKeys, modest, calm, conditions, laid).
  DERIVED. THE GIVEN ROWS OF THIS SEAT. 10 by the template 'for every input the law returns true; each argument reads behind the call as it read before'; 0 by the template 'total and deterministic' (their statements: YtpacmhhaabhdjaaTotals.lean).
  GIVEN WITH THE SEED: the statements are not yours to turn. If you find one false, say at which input.
  Laid BY PROGRAM, IN A SANDBOX (cutbox-rows.mjs): the forced cells as the released guide's own fill.sh prints them over the translation 8de1e3e5dd5ff205… (all of the seat's roots in one cut). By AI agents, Wed Nov 11 2026. No macro, syntax, notation, axiom, sorry.
-/
import Derived.Test.YtpacmhhaabhdjaaChecked
import GoSem.Claim
import GoSem.ClaimJoined
import GoSem.ClaimMapViews
import Derived.JoinedTies
import Derived.KernelRfl
namespace Go.Proofs.Ytpacmhhaabhdjaa
/- THE CELL 'sum', in the pinned program and in every row, IS THE sha256 OF THE DUMP (.gsa) THAT YtpacmhhaabhdjaaProg.lean LOADS. Nothing in Lean hashes anything: it is a label: what it is worth is what the hold of that sum in a sandbox is worth. -/
noncomputable def Try.pinned : Pinned := { name := "ytpacmhhaabhdjaa", sum := "8de1e3e5dd5ff2054c9da83953e00f64f3ce87b0d3189e713e1f3a433b414b98", checked := Try.checked }
namespace Rows
def none {H : Type} : Left H := { results := [], args := [] }

/-- 'avermentlaw09.KnownSets': WHATEVER THE INPUT: true; the input reads as it did. -/
def knownSetsSpec : ChangeSpec := { name := "knownSets", fn := fun _ => fun
  | [d1, d2, d3] => { results := [.lit (.bool true)], args := [d1, d2, d3] }
  | _ => none }
def knownSetsRow : OpenClaim := { program := "ytpacmhhaabhdjaa", sum := "8de1e3e5dd5ff2054c9da83953e00f64f3ce87b0d3189e713e1f3a433b414b98", func := "averment/avermentlaw09.KnownSets", spec := "knownSets", apart := false }
def KnownSetsSaid : Prop := knownSetsRow.holds Try.pinned (OpenSpec.ofChange knownSetsSpec)

/-- ITS FALSE NEIGHBOUR: 'it returns false'. Refute it at one input. -/
def knownSetsWrong : ChangeSpec := { name := "knownSets", fn := fun _ => fun
  | [d1, d2, d3] => { results := [.lit (.bool false)], args := [d1, d2, d3] }
  | _ => none }
def KnownSetsWrongFalsely : Prop := knownSetsRow.holds Try.pinned (OpenSpec.ofChange knownSetsWrong)

/-- 'avermentlaw09.KnownRises': WHATEVER THE INPUT: true; the input reads as it did. -/
def knownRisesSpec : ChangeSpec := { name := "knownRises", fn := fun _ => fun
  | [d1, d2, d3] => { results := [.lit (.bool true)], args := [d1, d2, d3] }
  | _ => none }
def knownRisesRow : OpenClaim := { program := "ytpacmhhaabhdjaa", sum := "8de1e3e5dd5ff2054c9da83953e00f64f3ce87b0d3189e713e1f3a433b414b98", func := "averment/avermentlaw09.KnownRises", spec := "knownRises", apart := false }
def KnownRisesSaid : Prop := knownRisesRow.holds Try.pinned (OpenSpec.ofChange knownRisesSpec)

/-- ITS FALSE NEIGHBOUR: 'it returns false'. Refute it at one input. -/
def knownRisesWrong : ChangeSpec := { name := "knownRises", fn := fun _ => fun
  | [d1, d2, d3] => { results := [.lit (.bool false)], args := [d1, d2, d3] }
  | _ => none }
def KnownRisesWrongFalsely : Prop := knownRisesRow.holds Try.pinned (OpenSpec.ofChange knownRisesWrong)

/-- 'avermentlaw09.KnownMakes': WHATEVER THE INPUT: true; the input reads as it did. -/
def knownMakesSpec : ChangeSpec := { name := "knownMakes", fn := fun _ => fun
  | [d1, d2, d3] => { results := [.lit (.bool true)], args := [d1, d2, d3] }
  | _ => none }
def knownMakesRow : OpenClaim := { program := "ytpacmhhaabhdjaa", sum := "8de1e3e5dd5ff2054c9da83953e00f64f3ce87b0d3189e713e1f3a433b414b98", func := "averment/avermentlaw09.KnownMakes", spec := "knownMakes", apart := false }
def KnownMakesSaid : Prop := knownMakesRow.holds Try.pinned (OpenSpec.ofChange knownMakesSpec)

/-- ITS FALSE NEIGHBOUR: 'it returns false'. Refute it at one input. -/
def knownMakesWrong : ChangeSpec := { name := "knownMakes", fn := fun _ => fun
  | [d1, d2, d3] => { results := [.lit (.bool false)], args := [d1, d2, d3] }
  | _ => none }
def KnownMakesWrongFalsely : Prop := knownMakesRow.holds Try.pinned (OpenSpec.ofChange knownMakesWrong)

/-- 'avermentlaw09.KnownSound': WHATEVER THE INPUT: true; the input reads as it did. -/
def knownSoundSpec : ChangeSpec := { name := "knownSound", fn := fun _ => fun
  | [d1, d2, d3] => { results := [.lit (.bool true)], args := [d1, d2, d3] }
  | _ => none }
def knownSoundRow : OpenClaim := { program := "ytpacmhhaabhdjaa", sum := "8de1e3e5dd5ff2054c9da83953e00f64f3ce87b0d3189e713e1f3a433b414b98", func := "averment/avermentlaw09.KnownSound", spec := "knownSound", apart := false }
def KnownSoundSaid : Prop := knownSoundRow.holds Try.pinned (OpenSpec.ofChange knownSoundSpec)

/-- ITS FALSE NEIGHBOUR: 'it returns false'. Refute it at one input. -/
def knownSoundWrong : ChangeSpec := { name := "knownSound", fn := fun _ => fun
  | [d1, d2, d3] => { results := [.lit (.bool false)], args := [d1, d2, d3] }
  | _ => none }
def KnownSoundWrongFalsely : Prop := knownSoundRow.holds Try.pinned (OpenSpec.ofChange knownSoundWrong)

/-- 'avermentlaw10.SpanEnds': WHATEVER THE INPUT: true; the input reads as it did. -/
def spanEndsSpec : ChangeSpec := { name := "spanEnds", fn := fun _ => fun
  | [d1, d2, d3] => { results := [.lit (.bool true)], args := [d1, d2, d3] }
  | _ => none }
def spanEndsRow : OpenClaim := { program := "ytpacmhhaabhdjaa", sum := "8de1e3e5dd5ff2054c9da83953e00f64f3ce87b0d3189e713e1f3a433b414b98", func := "averment/avermentlaw10.SpanEnds", spec := "spanEnds", recurses := true, apart := false }
def SpanEndsSaid : Prop := spanEndsRow.holds Try.pinned (OpenSpec.ofChange spanEndsSpec)

/-- ITS FALSE NEIGHBOUR: 'it returns false'. Refute it at one input. -/
def spanEndsWrong : ChangeSpec := { name := "spanEnds", fn := fun _ => fun
  | [d1, d2, d3] => { results := [.lit (.bool false)], args := [d1, d2, d3] }
  | _ => none }
def SpanEndsWrongFalsely : Prop := spanEndsRow.holds Try.pinned (OpenSpec.ofChange spanEndsWrong)

/-- 'avermentlaw10.SpanSets': WHATEVER THE INPUT: true; the input reads as it did. -/
def spanSetsSpec : ChangeSpec := { name := "spanSets", fn := fun _ => fun
  | [d1, d2, d3] => { results := [.lit (.bool true)], args := [d1, d2, d3] }
  | _ => none }
def spanSetsRow : OpenClaim := { program := "ytpacmhhaabhdjaa", sum := "8de1e3e5dd5ff2054c9da83953e00f64f3ce87b0d3189e713e1f3a433b414b98", func := "averment/avermentlaw10.SpanSets", spec := "spanSets", recurses := true, apart := false }
def SpanSetsSaid : Prop := spanSetsRow.holds Try.pinned (OpenSpec.ofChange spanSetsSpec)

/-- ITS FALSE NEIGHBOUR: 'it returns false'. Refute it at one input. -/
def spanSetsWrong : ChangeSpec := { name := "spanSets", fn := fun _ => fun
  | [d1, d2, d3] => { results := [.lit (.bool false)], args := [d1, d2, d3] }
  | _ => none }
def SpanSetsWrongFalsely : Prop := spanSetsRow.holds Try.pinned (OpenSpec.ofChange spanSetsWrong)

/-- 'avermentlaw10.SpanWidens': WHATEVER THE INPUT: true; the input reads as it did. -/
def spanWidensSpec : ChangeSpec := { name := "spanWidens", fn := fun _ => fun
  | [d1, d2] => { results := [.lit (.bool true)], args := [d1, d2] }
  | _ => none }
def spanWidensRow : OpenClaim := { program := "ytpacmhhaabhdjaa", sum := "8de1e3e5dd5ff2054c9da83953e00f64f3ce87b0d3189e713e1f3a433b414b98", func := "averment/avermentlaw10.SpanWidens", spec := "spanWidens", recurses := true, apart := false }
def SpanWidensSaid : Prop := spanWidensRow.holds Try.pinned (OpenSpec.ofChange spanWidensSpec)

/-- ITS FALSE NEIGHBOUR: 'it returns false'. Refute it at one input. -/
def spanWidensWrong : ChangeSpec := { name := "spanWidens", fn := fun _ => fun
  | [d1, d2] => { results := [.lit (.bool false)], args := [d1, d2] }
  | _ => none }
def SpanWidensWrongFalsely : Prop := spanWidensRow.holds Try.pinned (OpenSpec.ofChange spanWidensWrong)

/-- 'avermentlaw10.SpanMakes': WHATEVER THE INPUT: true; the input reads as it did. -/
def spanMakesSpec : ChangeSpec := { name := "spanMakes", fn := fun _ => fun
  | [d1, d2, d3] => { results := [.lit (.bool true)], args := [d1, d2, d3] }
  | _ => none }
def spanMakesRow : OpenClaim := { program := "ytpacmhhaabhdjaa", sum := "8de1e3e5dd5ff2054c9da83953e00f64f3ce87b0d3189e713e1f3a433b414b98", func := "averment/avermentlaw10.SpanMakes", spec := "spanMakes", recurses := true, apart := false }
def SpanMakesSaid : Prop := spanMakesRow.holds Try.pinned (OpenSpec.ofChange spanMakesSpec)

/-- ITS FALSE NEIGHBOUR: 'it returns false'. Refute it at one input. -/
def spanMakesWrong : ChangeSpec := { name := "spanMakes", fn := fun _ => fun
  | [d1, d2, d3] => { results := [.lit (.bool false)], args := [d1, d2, d3] }
  | _ => none }
def SpanMakesWrongFalsely : Prop := spanMakesRow.holds Try.pinned (OpenSpec.ofChange spanMakesWrong)

/-- 'avermentlaw10.SpanSound': WHATEVER THE INPUT: true; the input reads as it did. -/
def spanSoundSpec : ChangeSpec := { name := "spanSound", fn := fun _ => fun
  | [d1, d2, d3] => { results := [.lit (.bool true)], args := [d1, d2, d3] }
  | _ => none }
def spanSoundRow : OpenClaim := { program := "ytpacmhhaabhdjaa", sum := "8de1e3e5dd5ff2054c9da83953e00f64f3ce87b0d3189e713e1f3a433b414b98", func := "averment/avermentlaw10.SpanSound", spec := "spanSound", recurses := true, apart := false }
def SpanSoundSaid : Prop := spanSoundRow.holds Try.pinned (OpenSpec.ofChange spanSoundSpec)

/-- ITS FALSE NEIGHBOUR: 'it returns false'. Refute it at one input. -/
def spanSoundWrong : ChangeSpec := { name := "spanSound", fn := fun _ => fun
  | [d1, d2, d3] => { results := [.lit (.bool false)], args := [d1, d2, d3] }
  | _ => none }
def SpanSoundWrongFalsely : Prop := spanSoundRow.holds Try.pinned (OpenSpec.ofChange spanSoundWrong)

/-- 'avermentlaw10.SpanRises': WHATEVER THE INPUT: true; the input reads as it did. -/
def spanRisesSpec : ChangeSpec := { name := "spanRises", fn := fun _ => fun
  | [d1, d2, d3] => { results := [.lit (.bool true)], args := [d1, d2, d3] }
  | _ => none }
def spanRisesRow : OpenClaim := { program := "ytpacmhhaabhdjaa", sum := "8de1e3e5dd5ff2054c9da83953e00f64f3ce87b0d3189e713e1f3a433b414b98", func := "averment/avermentlaw10.SpanRises", spec := "spanRises", recurses := true, apart := false }
def SpanRisesSaid : Prop := spanRisesRow.holds Try.pinned (OpenSpec.ofChange spanRisesSpec)

/-- ITS FALSE NEIGHBOUR: 'it returns false'. Refute it at one input. -/
def spanRisesWrong : ChangeSpec := { name := "spanRises", fn := fun _ => fun
  | [d1, d2, d3] => { results := [.lit (.bool false)], args := [d1, d2, d3] }
  | _ => none }
def SpanRisesWrongFalsely : Prop := spanRisesRow.holds Try.pinned (OpenSpec.ofChange spanRisesWrong)

/- THE SECOND FORM. 'bulk': how many values and letters a reading holds, each counted each time it is reached (what is shared counts as often as it is met; a slice's spare places count too). A statement '..UptoSaid' is the law's where the arguments, and the package variables that the reading takes, are together of bulk at most 1048576: NARROWER than '..Said'. Prove '..Said' where nothing that the law and all that it calls make is longer than what came in: it says more and counts as full. Else prove '..UptoSaid'. A law counts once. -/
mutual
def uptoBulk {H : Type} : DataW H → Nat
  | .lit (.string bytes) => bytes.length + 1
  | .lit _ => 1
  | .nil => 1
  | .ptr d => uptoBulk d + 1
  | .slice elems spare => uptoBulkAll elems + uptoBulkAll spare + 1
  | .agg parts => uptoBulkAll parts + 1
  | .iface _ d => uptoBulk d + 1
  | .map entries => uptoBulkEntries entries + 1
  | .held _ => 1
def uptoBulkAll {H : Type} : List (DataW H) → Nat
  | [] => 0
  | d :: r => uptoBulk d + uptoBulkAll r
def uptoBulkEntries {H : Type} : List (Lit × DataW H) → Nat
  | [] => 0
  | x :: r => uptoBulkEntry x + uptoBulkEntries r
def uptoBulkEntry {H : Type} : Lit × DataW H → Nat
  | (.string bytes, d) => bytes.length + uptoBulk d + 1
  | (_, d) => uptoBulk d + 1
 end
def uptoSmall : (H : Type) → List (DataW H) → Bool := fun _ ds => decide (uptoBulkAll ds ≤ 1048576)
def OpenSpec.upto (s : _root_.Go.ChangeSpec) : _root_.Go.OpenSpec := { _root_.Go.OpenSpec.ofChange s with cond := some uptoSmall }

/-- 'avermentlaw09.KnownSets', WHERE WHAT IT READS IS OF BULK AT MOST 1048576: true; the input reads as it did. -/
def knownSetsUptoRow : OpenClaim := { program := "ytpacmhhaabhdjaa", sum := "8de1e3e5dd5ff2054c9da83953e00f64f3ce87b0d3189e713e1f3a433b414b98", func := "averment/avermentlaw09.KnownSets", spec := "knownSets", apart := false, narrowed := true }
def KnownSetsUptoSaid : Prop := knownSetsUptoRow.holds Try.pinned (OpenSpec.upto knownSetsSpec)

/-- 'avermentlaw09.KnownRises', WHERE WHAT IT READS IS OF BULK AT MOST 1048576: true; the input reads as it did. -/
def knownRisesUptoRow : OpenClaim := { program := "ytpacmhhaabhdjaa", sum := "8de1e3e5dd5ff2054c9da83953e00f64f3ce87b0d3189e713e1f3a433b414b98", func := "averment/avermentlaw09.KnownRises", spec := "knownRises", apart := false, narrowed := true }
def KnownRisesUptoSaid : Prop := knownRisesUptoRow.holds Try.pinned (OpenSpec.upto knownRisesSpec)

/-- 'avermentlaw09.KnownMakes', WHERE WHAT IT READS IS OF BULK AT MOST 1048576: true; the input reads as it did. -/
def knownMakesUptoRow : OpenClaim := { program := "ytpacmhhaabhdjaa", sum := "8de1e3e5dd5ff2054c9da83953e00f64f3ce87b0d3189e713e1f3a433b414b98", func := "averment/avermentlaw09.KnownMakes", spec := "knownMakes", apart := false, narrowed := true }
def KnownMakesUptoSaid : Prop := knownMakesUptoRow.holds Try.pinned (OpenSpec.upto knownMakesSpec)

/-- 'avermentlaw09.KnownSound', WHERE WHAT IT READS IS OF BULK AT MOST 1048576: true; the input reads as it did. -/
def knownSoundUptoRow : OpenClaim := { program := "ytpacmhhaabhdjaa", sum := "8de1e3e5dd5ff2054c9da83953e00f64f3ce87b0d3189e713e1f3a433b414b98", func := "averment/avermentlaw09.KnownSound", spec := "knownSound", apart := false, narrowed := true }
def KnownSoundUptoSaid : Prop := knownSoundUptoRow.holds Try.pinned (OpenSpec.upto knownSoundSpec)

/-- 'avermentlaw10.SpanEnds', WHERE WHAT IT READS IS OF BULK AT MOST 1048576: true; the input reads as it did. -/
def spanEndsUptoRow : OpenClaim := { program := "ytpacmhhaabhdjaa", sum := "8de1e3e5dd5ff2054c9da83953e00f64f3ce87b0d3189e713e1f3a433b414b98", func := "averment/avermentlaw10.SpanEnds", spec := "spanEnds", recurses := true, apart := false, narrowed := true }
def SpanEndsUptoSaid : Prop := spanEndsUptoRow.holds Try.pinned (OpenSpec.upto spanEndsSpec)

/-- 'avermentlaw10.SpanSets', WHERE WHAT IT READS IS OF BULK AT MOST 1048576: true; the input reads as it did. -/
def spanSetsUptoRow : OpenClaim := { program := "ytpacmhhaabhdjaa", sum := "8de1e3e5dd5ff2054c9da83953e00f64f3ce87b0d3189e713e1f3a433b414b98", func := "averment/avermentlaw10.SpanSets", spec := "spanSets", recurses := true, apart := false, narrowed := true }
def SpanSetsUptoSaid : Prop := spanSetsUptoRow.holds Try.pinned (OpenSpec.upto spanSetsSpec)

/-- 'avermentlaw10.SpanWidens', WHERE WHAT IT READS IS OF BULK AT MOST 1048576: true; the input reads as it did. -/
def spanWidensUptoRow : OpenClaim := { program := "ytpacmhhaabhdjaa", sum := "8de1e3e5dd5ff2054c9da83953e00f64f3ce87b0d3189e713e1f3a433b414b98", func := "averment/avermentlaw10.SpanWidens", spec := "spanWidens", recurses := true, apart := false, narrowed := true }
def SpanWidensUptoSaid : Prop := spanWidensUptoRow.holds Try.pinned (OpenSpec.upto spanWidensSpec)

/-- 'avermentlaw10.SpanMakes', WHERE WHAT IT READS IS OF BULK AT MOST 1048576: true; the input reads as it did. -/
def spanMakesUptoRow : OpenClaim := { program := "ytpacmhhaabhdjaa", sum := "8de1e3e5dd5ff2054c9da83953e00f64f3ce87b0d3189e713e1f3a433b414b98", func := "averment/avermentlaw10.SpanMakes", spec := "spanMakes", recurses := true, apart := false, narrowed := true }
def SpanMakesUptoSaid : Prop := spanMakesUptoRow.holds Try.pinned (OpenSpec.upto spanMakesSpec)

/-- 'avermentlaw10.SpanSound', WHERE WHAT IT READS IS OF BULK AT MOST 1048576: true; the input reads as it did. -/
def spanSoundUptoRow : OpenClaim := { program := "ytpacmhhaabhdjaa", sum := "8de1e3e5dd5ff2054c9da83953e00f64f3ce87b0d3189e713e1f3a433b414b98", func := "averment/avermentlaw10.SpanSound", spec := "spanSound", recurses := true, apart := false, narrowed := true }
def SpanSoundUptoSaid : Prop := spanSoundUptoRow.holds Try.pinned (OpenSpec.upto spanSoundSpec)

/-- 'avermentlaw10.SpanRises', WHERE WHAT IT READS IS OF BULK AT MOST 1048576: true; the input reads as it did. -/
def spanRisesUptoRow : OpenClaim := { program := "ytpacmhhaabhdjaa", sum := "8de1e3e5dd5ff2054c9da83953e00f64f3ce87b0d3189e713e1f3a433b414b98", func := "averment/avermentlaw10.SpanRises", spec := "spanRises", recurses := true, apart := false, narrowed := true }
def SpanRisesUptoSaid : Prop := spanRisesUptoRow.holds Try.pinned (OpenSpec.upto spanRisesSpec)

end Rows
end Go.Proofs.Ytpacmhhaabhdjaa
