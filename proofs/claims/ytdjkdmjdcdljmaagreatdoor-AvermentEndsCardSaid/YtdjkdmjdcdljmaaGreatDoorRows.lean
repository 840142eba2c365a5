/-
  NARROWER THAN 'FOR EVERY INPUT', by the rows' own cells (each row's printed sentence says how): AvermentEnds: laid · AvermentUnique: laid · AvermentFiles: laid.
  DERIVED. THE GIVEN ROWS OF THIS SEAT. 3 by the template 'for every input the law returns true; each argument reads behind the call as it read before'; 0 by the template 'total and deterministic' (their statements: YtdjkdmjdcdljmaaGreatDoorTotals.lean).
  GIVEN WITH THE SEED: the statements are not yours to turn. If you find one false, say at which input.
  Laid BY PROGRAM, IN A SANDBOX (cutbox-rows.mjs): the forced cells as the released guide's own fill.sh prints them over the translation 35a495437b85e7fc… (all of the seat's roots in one cut). By AI agents, Wed Nov 11 2026. No macro, syntax, notation, axiom, sorry.
-/
import Derived.Test.YtdjkdmjdcdljmaaGreatDoorChecked
import GoSem.Claim
import GoSem.ClaimJoined
import GoSem.ClaimMapViews
import Derived.JoinedTies
import Derived.KernelRfl
namespace Go.Proofs.YtdjkdmjdcdljmaaGreatDoor
/- THE CELL 'sum', in the pinned program and in every row, IS THE sha256 OF THE DUMP (.gsa) THAT YtdjkdmjdcdljmaaGreatDoorProg.lean LOADS. Nothing in Lean hashes anything: it is a label: what it is worth is what the hold of that sum in a sandbox is worth. -/
noncomputable def Tryz.pinned : Pinned := { name := "ytdjkdmjdcdljmaagreatdoor", sum := "35a495437b85e7fc28e343ff80a78e17ef58bdc940fbde6ba52a97c15ce32050", checked := Tryz.checked }
namespace Rows
def none {H : Type} : Left H := { results := [], args := [] }

/- WHAT THE LISTED PACKAGE-LEVEL VARIABLES READ AS WHEN THE CALL BEGINS. Each datum BY PROGRAM (the guide's laid-datum.mjs) off the statement by which the dump's own 'gosem.cut.vars' lays the variable. In a bare row this is a premise. The card (YtdjkdmjdcdljmaaGreatDoorCards.lean) ties it to the program's text. -/
def laid_errors_errorType {H : Type} : DataW H := .iface "internal/reflectlite.rtype" (.agg [.ptr (.lit (.string [101, 114, 114, 111, 114]))])

/-- 'avermenttop.AvermentEnds': WHATEVER THE INPUT: true; the input reads as it did. -/
def avermentEndsSpec : ChangeSpec := { name := "avermentEnds", fn := fun _ => fun
  | [d] => { results := [.lit (.bool true)], args := [d] }
  | _ => none }
def avermentEndsRow : OpenClaim := { program := "ytdjkdmjdcdljmaagreatdoor", sum := "35a495437b85e7fc28e343ff80a78e17ef58bdc940fbde6ba52a97c15ce32050", func := "averment/avermenttop.AvermentEnds", spec := "avermentEnds", inPlace := ["internal/reflectlite.ValueOf", "(internal/reflectlite.Value).Type", "(internal/reflectlite.Value).IsNil", "internal/reflectlite.TypeOf", "(internal/reflectlite.Value).Elem", "(internal/reflectlite.Value).Set"], unfollowed := true, recurses := true, named := ["errors.errorType"], apart := false, laid := [("errors.errorType", laid_errors_errorType)] }
def AvermentEndsSaid : Prop := avermentEndsRow.holds Tryz.pinned (OpenSpec.ofChange avermentEndsSpec)

/-- ITS FALSE NEIGHBOUR: 'it returns false'. Refute it at one input. -/
def avermentEndsWrong : ChangeSpec := { name := "avermentEnds", fn := fun _ => fun
  | [d] => { results := [.lit (.bool false)], args := [d] }
  | _ => none }
def AvermentEndsWrongFalsely : Prop := avermentEndsRow.holds Tryz.pinned (OpenSpec.ofChange avermentEndsWrong)

/-- 'avermenttop.AvermentUnique': WHATEVER THE INPUT: true; the input reads as it did. -/
def avermentUniqueSpec : ChangeSpec := { name := "avermentUnique", fn := fun _ => fun
  | [d1, d2] => { results := [.lit (.bool true)], args := [d1, d2] }
  | _ => none }
def avermentUniqueRow : OpenClaim := { program := "ytdjkdmjdcdljmaagreatdoor", sum := "35a495437b85e7fc28e343ff80a78e17ef58bdc940fbde6ba52a97c15ce32050", func := "averment/avermenttop.AvermentUnique", spec := "avermentUnique", inPlace := ["internal/reflectlite.ValueOf", "(internal/reflectlite.Value).Type", "(internal/reflectlite.Value).IsNil", "internal/reflectlite.TypeOf", "(internal/reflectlite.Value).Elem", "(internal/reflectlite.Value).Set"], unfollowed := true, recurses := true, named := ["errors.errorType"], apart := false, laid := [("errors.errorType", laid_errors_errorType)] }
def AvermentUniqueSaid : Prop := avermentUniqueRow.holds Tryz.pinned (OpenSpec.ofChange avermentUniqueSpec)

/-- ITS FALSE NEIGHBOUR: 'it returns false'. Refute it at one input. -/
def avermentUniqueWrong : ChangeSpec := { name := "avermentUnique", fn := fun _ => fun
  | [d1, d2] => { results := [.lit (.bool false)], args := [d1, d2] }
  | _ => none }
def AvermentUniqueWrongFalsely : Prop := avermentUniqueRow.holds Tryz.pinned (OpenSpec.ofChange avermentUniqueWrong)

/-- 'avermenttop.AvermentFiles': WHATEVER THE INPUT: true; the input reads as it did. -/
def avermentFilesSpec : ChangeSpec := { name := "avermentFiles", fn := fun _ => fun
  | [d1, d2] => { results := [.lit (.bool true)], args := [d1, d2] }
  | _ => none }
def avermentFilesRow : OpenClaim := { program := "ytdjkdmjdcdljmaagreatdoor", sum := "35a495437b85e7fc28e343ff80a78e17ef58bdc940fbde6ba52a97c15ce32050", func := "averment/avermenttop.AvermentFiles", spec := "avermentFiles", inPlace := ["internal/reflectlite.ValueOf", "(internal/reflectlite.Value).Type", "(internal/reflectlite.Value).IsNil", "internal/reflectlite.TypeOf", "(internal/reflectlite.Value).Elem", "(internal/reflectlite.Value).Set"], unfollowed := true, recurses := true, named := ["errors.errorType"], apart := false, laid := [("errors.errorType", laid_errors_errorType)] }
def AvermentFilesSaid : Prop := avermentFilesRow.holds Tryz.pinned (OpenSpec.ofChange avermentFilesSpec)

/-- ITS FALSE NEIGHBOUR: 'it returns false'. Refute it at one input. -/
def avermentFilesWrong : ChangeSpec := { name := "avermentFiles", fn := fun _ => fun
  | [d1, d2] => { results := [.lit (.bool false)], args := [d1, d2] }
  | _ => none }
def AvermentFilesWrongFalsely : Prop := avermentFilesRow.holds Tryz.pinned (OpenSpec.ofChange avermentFilesWrong)

/- THE SECOND FORM. 'bulk': how many values and letters a reading holds, each counted each time it is reached (what is shared counts as often as it is met; a slice's spare places count too). A statement '..UptoSaid' is the law's where the arguments, and the package variables that the reading takes, are together of bulk at most 1048576: NARROWER than '..Said'. Prove '..Said' where nothing that the law and all that it calls make is longer than what came in: it says more and counts as full. Else prove '..UptoSaid'. A law counts once. -/
mutual
def uptoBulk {H : Type} : DataW H → Nat
  | .lit (.string bytes) => bytes.length + 1
  | .lit _ => 1
  | .nil => 1
  | .ptr d => uptoBulk d + 1
  | .slice elems spare => uptoBulkAll elems + uptoBulkAll spare + 1
  | .agg parts => uptoBulkAll parts + 1
  | .iface _ d => uptoBulk d + 1
  | .map entries => uptoBulkEntries entries + 1
  | .held _ => 1
def uptoBulkAll {H : Type} : List (DataW H) → Nat
  | [] => 0
  | d :: r => uptoBulk d + uptoBulkAll r
def uptoBulkEntries {H : Type} : List (Lit × DataW H) → Nat
  | [] => 0
  | x :: r => uptoBulkEntry x + uptoBulkEntries r
def uptoBulkEntry {H : Type} : Lit × DataW H → Nat
  | (.string bytes, d) => bytes.length + uptoBulk d + 1
  | (_, d) => uptoBulk d + 1
 end
def uptoSmall : (H : Type) → List (DataW H) → Bool := fun _ ds => decide (uptoBulkAll ds ≤ 1048576)
def OpenSpec.upto (s : _root_.Go.ChangeSpec) : _root_.Go.OpenSpec := { _root_.Go.OpenSpec.ofChange s with cond := some uptoSmall }

/-- 'avermenttop.AvermentEnds', WHERE WHAT IT READS IS OF BULK AT MOST 1048576: true; the input reads as it did. -/
def avermentEndsUptoRow : OpenClaim := { program := "ytdjkdmjdcdljmaagreatdoor", sum := "35a495437b85e7fc28e343ff80a78e17ef58bdc940fbde6ba52a97c15ce32050", func := "averment/avermenttop.AvermentEnds", spec := "avermentEnds", inPlace := ["internal/reflectlite.ValueOf", "(internal/reflectlite.Value).Type", "(internal/reflectlite.Value).IsNil", "internal/reflectlite.TypeOf", "(internal/reflectlite.Value).Elem", "(internal/reflectlite.Value).Set"], unfollowed := true, recurses := true, named := ["errors.errorType"], apart := false, laid := [("errors.errorType", laid_errors_errorType)], narrowed := true }
def AvermentEndsUptoSaid : Prop := avermentEndsUptoRow.holds Tryz.pinned (OpenSpec.upto avermentEndsSpec)

/-- 'avermenttop.AvermentUnique', WHERE WHAT IT READS IS OF BULK AT MOST 1048576: true; the input reads as it did. -/
def avermentUniqueUptoRow : OpenClaim := { program := "ytdjkdmjdcdljmaagreatdoor", sum := "35a495437b85e7fc28e343ff80a78e17ef58bdc940fbde6ba52a97c15ce32050", func := "averment/avermenttop.AvermentUnique", spec := "avermentUnique", inPlace := ["internal/reflectlite.ValueOf", "(internal/reflectlite.Value).Type", "(internal/reflectlite.Value).IsNil", "internal/reflectlite.TypeOf", "(internal/reflectlite.Value).Elem", "(internal/reflectlite.Value).Set"], unfollowed := true, recurses := true, named := ["errors.errorType"], apart := false, laid := [("errors.errorType", laid_errors_errorType)], narrowed := true }
def AvermentUniqueUptoSaid : Prop := avermentUniqueUptoRow.holds Tryz.pinned (OpenSpec.upto avermentUniqueSpec)

/-- 'avermenttop.AvermentFiles', WHERE WHAT IT READS IS OF BULK AT MOST 1048576: true; the input reads as it did. -/
def avermentFilesUptoRow : OpenClaim := { program := "ytdjkdmjdcdljmaagreatdoor", sum := "35a495437b85e7fc28e343ff80a78e17ef58bdc940fbde6ba52a97c15ce32050", func := "averment/avermenttop.AvermentFiles", spec := "avermentFiles", inPlace := ["internal/reflectlite.ValueOf", "(internal/reflectlite.Value).Type", "(internal/reflectlite.Value).IsNil", "internal/reflectlite.TypeOf", "(internal/reflectlite.Value).Elem", "(internal/reflectlite.Value).Set"], unfollowed := true, recurses := true, named := ["errors.errorType"], apart := false, laid := [("errors.errorType", laid_errors_errorType)], narrowed := true }
def AvermentFilesUptoSaid : Prop := avermentFilesUptoRow.holds Tryz.pinned (OpenSpec.upto avermentFilesSpec)

end Rows
end Go.Proofs.YtdjkdmjdcdljmaaGreatDoor
