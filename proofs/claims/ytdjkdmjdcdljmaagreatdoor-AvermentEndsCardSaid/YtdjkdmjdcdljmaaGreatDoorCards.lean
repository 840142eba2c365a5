/-
  DERIVED. GIVEN WITH THE SEED: THE CARDS: each row of YtdjkdmjdcdljmaaGreatDoorRows.lean that lists a variable, with what it lists TIED to the program's text (the seventh form; the later family's looks); each row that meets fmt, with fmt's text TOLD by the authors' own Lean function (tested against real Go, not proved from fmt's source: count such statements apart). THE CARD IS WHAT COUNTS. Prove the row's statement (the work); the ties are given (YtdjkdmjdcdljmaaGreatDoorTie.lean); close each card by the builder's one call (the guide's Derived/Test/ToyasCard.lean, 'card_holds'). Laid BY PROGRAM, IN A SANDBOX (cutbox-door.mjs). By AI agents, Wed Nov 11 2026. No macro, syntax, notation, axiom, sorry.
-/
import Derived.Test.YtdjkdmjdcdljmaaGreatDoorRows
import GoSem.ClaimSeven
namespace Go.Proofs.YtdjkdmjdcdljmaaGreatDoor
namespace Rows

/-- THE TIED CARD OF 'avermenttop.AvermentEnds'. -/
def avermentEndsCard : Claim7 := { stood := { row := avermentEndsRow, standIns := [], harness := (true, "ef6b4a2e4951f5633a053af040cff40633adf28c1de0d9ae68ccffb901b96e32"), looks := true }, kinds := [], alts := [], laidByText := true, laidKinds := [.handle], laidTests := true, laidLooks := .later }
def AvermentEndsCardSaid : Prop := Claim7.holds Tryz.pinned (.plain (OpenSpec.ofChange avermentEndsSpec)) avermentEndsCard

/-- THE TIED CARD OF 'avermenttop.AvermentUnique'. -/
def avermentUniqueCard : Claim7 := { stood := { row := avermentUniqueRow, standIns := [], harness := (true, "ef6b4a2e4951f5633a053af040cff40633adf28c1de0d9ae68ccffb901b96e32"), looks := true }, kinds := [], alts := [], laidByText := true, laidKinds := [.handle], laidTests := true, laidLooks := .later }
def AvermentUniqueCardSaid : Prop := Claim7.holds Tryz.pinned (.plain (OpenSpec.ofChange avermentUniqueSpec)) avermentUniqueCard

/-- THE TIED CARD OF 'avermenttop.AvermentFiles'. -/
def avermentFilesCard : Claim7 := { stood := { row := avermentFilesRow, standIns := [], harness := (true, "ef6b4a2e4951f5633a053af040cff40633adf28c1de0d9ae68ccffb901b96e32"), looks := true }, kinds := [], alts := [], laidByText := true, laidKinds := [.handle], laidTests := true, laidLooks := .later }
def AvermentFilesCardSaid : Prop := Claim7.holds Tryz.pinned (.plain (OpenSpec.ofChange avermentFilesSpec)) avermentFilesCard

/-- THE SECOND FORM's CARD OF 'avermenttop.AvermentEnds'. -/
def avermentEndsUptoCard : Claim7 := { stood := { row := avermentEndsUptoRow, standIns := [], harness := (true, "ef6b4a2e4951f5633a053af040cff40633adf28c1de0d9ae68ccffb901b96e32"), looks := true }, kinds := [], alts := [], laidByText := true, laidKinds := [.handle], laidTests := true, laidLooks := .later }
def AvermentEndsUptoCardSaid : Prop := Claim7.holds Tryz.pinned (.plain (OpenSpec.upto avermentEndsSpec)) avermentEndsUptoCard

/-- THE SECOND FORM's CARD OF 'avermenttop.AvermentUnique'. -/
def avermentUniqueUptoCard : Claim7 := { stood := { row := avermentUniqueUptoRow, standIns := [], harness := (true, "ef6b4a2e4951f5633a053af040cff40633adf28c1de0d9ae68ccffb901b96e32"), looks := true }, kinds := [], alts := [], laidByText := true, laidKinds := [.handle], laidTests := true, laidLooks := .later }
def AvermentUniqueUptoCardSaid : Prop := Claim7.holds Tryz.pinned (.plain (OpenSpec.upto avermentUniqueSpec)) avermentUniqueUptoCard

/-- THE SECOND FORM's CARD OF 'avermenttop.AvermentFiles'. -/
def avermentFilesUptoCard : Claim7 := { stood := { row := avermentFilesUptoRow, standIns := [], harness := (true, "ef6b4a2e4951f5633a053af040cff40633adf28c1de0d9ae68ccffb901b96e32"), looks := true }, kinds := [], alts := [], laidByText := true, laidKinds := [.handle], laidTests := true, laidLooks := .later }
def AvermentFilesUptoCardSaid : Prop := Claim7.holds Tryz.pinned (.plain (OpenSpec.upto avermentFilesSpec)) avermentFilesUptoCard
end Rows
end Go.Proofs.YtdjkdmjdcdljmaaGreatDoor
