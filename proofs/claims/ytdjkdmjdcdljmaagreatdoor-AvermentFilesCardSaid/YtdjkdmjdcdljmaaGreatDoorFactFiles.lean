/- The law AvermentFiles, in parts: this text is packed by program (names shortened). No condition. -/
import Derived.Test.YtdjkdmjdcdljmaaGreatDoorRows
import Derived.JoinedOf
namespace Go.Proofs.YtdjkdmjdcdljmaaGreatDoor.q9b
theorem q7c {a b : Bool} (h : a = true) (g : b = true) : (a && b) = true := by rw [h, g]; rfl
theorem g0 : (Rows.avermentFilesRow.wf (OpenSpec.ofChange Rows.avermentFilesSpec)) = true := by kernel_rfl
theorem g1 : (laidOutB Tryz.prog) = true := by kernel_rfl
theorem g2 : (mapsRowed Tryz.prog) = true := by kernel_rfl
theorem g3 : (Tryz.f5.params.all (Tryz.prog.readableRec ·)) = true := by kernel_rfl
theorem g4 : (namedTie Tryz.prog Rows.avermentFilesRow.named Rows.avermentFilesSpec.vars) = true := by kernel_rfl
theorem g5 : (Rows.avermentFilesRow.stops == []) = true := by kernel_rfl
theorem g6 : (Tryz.prog.stops == []) = true := by kernel_rfl
theorem g7 : (Rows.avermentFilesRow.knobs == []) = true := by kernel_rfl
theorem g8 : (Tryz.prog.stopKnobs == []) = true := by kernel_rfl
theorem g9 : (Rows.avermentFilesRow.inPlace == Tryz.prog.inPlace 5) = true := by kernel_rfl
theorem g10 : (Rows.avermentFilesRow.unfollowed == Tryz.prog.unfollowed 5) = true := by kernel_rfl
theorem g11 : (Rows.avermentFilesRow.recurses == Tryz.prog.recurses 5) = true := by kernel_rfl
theorem g12 : (Rows.avermentFilesRow.named == Tryz.prog.varsNamed 5) = true := by kernel_rfl
theorem g13 : (Rows.avermentFilesRow.maps == (Tryz.f5.params.toList ++ Rows.avermentFilesSpec.plain.varTypes Tryz.prog).any (Tryz.prog.mapsRec ·)) = true := by kernel_rfl
theorem g14 : (Rows.avermentFilesRow.ifaces == (Tryz.f5.params.toList ++ Rows.avermentFilesSpec.plain.varTypes Tryz.prog).any (Tryz.prog.ifacesRec ·)) = true := by kernel_rfl
theorem g15 : (Rows.avermentFilesRow.mapsOut == Tryz.prog.mapsAmong Tryz.f5.resultTypes.toList) = true := by kernel_rfl
theorem g16 : (Rows.avermentFilesRow.loops == (Tryz.f5.params.toList ++ Rows.avermentFilesSpec.plain.varTypes Tryz.prog).any (Tryz.prog.loopsFrom ·)) = true := by kernel_rfl
theorem g17 : (Rows.avermentFilesRow.wideKeys == (Tryz.f5.params.toList ++ Rows.avermentFilesSpec.plain.varTypes Tryz.prog ++ Tryz.f5.resultTypes.toList).any (Tryz.prog.wideKeysFrom ·)) = true := by kernel_rfl
theorem g18 : (Rows.avermentFilesSpec.vars.all (Tryz.prog.varReadable ·)) = true := by kernel_rfl
theorem g19 : (Tryz.f5.resultTypes.all (fun t => Tryz.prog.readableRec t && decide (t < Tryz.prog.types.size))) = true := by kernel_rfl
theorem g20 : (Rows.avermentFilesRow.ifacesOut == Tryz.f5.resultTypes.toList.any (Tryz.prog.ifacesRec ·)) = true := by kernel_rfl
theorem g21 : (Rows.avermentFilesRow.loopsOut == Tryz.f5.resultTypes.toList.any (Tryz.prog.loopsFrom ·)) = true := by kernel_rfl
theorem g22 : (Rows.avermentFilesRow.plainKeys == Tryz.prog.plainKeys) = true := by kernel_rfl
theorem g23 : (Rows.avermentFilesRow.shortTexts.isNone) = true := by kernel_rfl
theorem g24 : (Tryz.prog.stopsHeard) = true := by kernel_rfl
theorem g25 : (Tryz.prog.mayEnter) = true := by kernel_rfl
theorem g26 : (Rows.avermentFilesRow.lifted == Tryz.prog.liftsFinal) = true := by kernel_rfl
theorem g27 : (Tryz.prog.make == some Rows.avermentFilesRow.make) = true := by kernel_rfl
theorem g29 : (Rows.avermentFilesRow.pinned == Rows.avermentFilesRow.pinnedBy) = true := by kernel_rfl
theorem g30 : (Rows.avermentFilesRow.veiled == (Tryz.f5.params.toList ++ Rows.avermentFilesSpec.plain.varTypes Tryz.prog ++ Tryz.f5.resultTypes.toList).any (Tryz.prog.veiledRec ·)) = true := by kernel_rfl
theorem g31 : (Rows.avermentFilesRow.veiledFits Tryz.prog Tryz.f5.params.toList (Tryz.f5.params.toList ++ Rows.avermentFilesSpec.plain.varTypes Tryz.prog ++ Tryz.f5.resultTypes.toList)) = true := by kernel_rfl
theorem facts : joinedFacts Tryz.prog 5 Tryz.f5 Rows.avermentFilesSpec Rows.avermentFilesRow = true := q7c (q7c (q7c (q7c (q7c (q7c (q7c (q7c (q7c (q7c (q7c (q7c (q7c (q7c (q7c (q7c (q7c (q7c (q7c (q7c (q7c (q7c (q7c (q7c (q7c (q7c (q7c (q7c (q7c (q7c (q7c g0 g1) g2) g3) g4) g5) g6) g7) g8) g9) g10) g11) g12) g13) g14) g15) g16) g17) g18) g19) g20) g21) g22) g23) g24) g25) g26) g27) (by kernel_rfl)) g29) g30) g31
end Go.Proofs.YtdjkdmjdcdljmaaGreatDoor.q9b
