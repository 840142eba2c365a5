/- The law AvermentUnique, in parts: this text is packed by program (names shortened). No condition. -/
import Derived.Test.YtdjkdmjdcdljmaaGreatDoorRows
import Derived.JoinedOf
namespace Go.Proofs.YtdjkdmjdcdljmaaGreatDoor.q7o
theorem q5p {a b : Bool} (h : a = true) (g : b = true) : (a && b) = true := by rw [h, g]; rfl
theorem g0 : (Rows.avermentUniqueRow.wf (OpenSpec.ofChange Rows.avermentUniqueSpec)) = true := by kernel_rfl
theorem g1 : (laidOutB Tryz.prog) = true := by kernel_rfl
theorem g2 : (mapsRowed Tryz.prog) = true := by kernel_rfl
theorem g3 : (Tryz.f4.params.all (Tryz.prog.readableRec ·)) = true := by kernel_rfl
theorem g4 : (namedTie Tryz.prog Rows.avermentUniqueRow.named Rows.avermentUniqueSpec.vars) = true := by kernel_rfl
theorem g5 : (Rows.avermentUniqueRow.stops == []) = true := by kernel_rfl
theorem g6 : (Tryz.prog.stops == []) = true := by kernel_rfl
theorem g7 : (Rows.avermentUniqueRow.knobs == []) = true := by kernel_rfl
theorem g8 : (Tryz.prog.stopKnobs == []) = true := by kernel_rfl
theorem g9 : (Rows.avermentUniqueRow.inPlace == Tryz.prog.inPlace 4) = true := by kernel_rfl
theorem g10 : (Rows.avermentUniqueRow.unfollowed == Tryz.prog.unfollowed 4) = true := by kernel_rfl
theorem g11 : (Rows.avermentUniqueRow.recurses == Tryz.prog.recurses 4) = true := by kernel_rfl
theorem g12 : (Rows.avermentUniqueRow.named == Tryz.prog.varsNamed 4) = true := by kernel_rfl
theorem g13 : (Rows.avermentUniqueRow.maps == (Tryz.f4.params.toList ++ Rows.avermentUniqueSpec.plain.varTypes Tryz.prog).any (Tryz.prog.mapsRec ·)) = true := by kernel_rfl
theorem g14 : (Rows.avermentUniqueRow.ifaces == (Tryz.f4.params.toList ++ Rows.avermentUniqueSpec.plain.varTypes Tryz.prog).any (Tryz.prog.ifacesRec ·)) = true := by kernel_rfl
theorem g15 : (Rows.avermentUniqueRow.mapsOut == Tryz.prog.mapsAmong Tryz.f4.resultTypes.toList) = true := by kernel_rfl
theorem g16 : (Rows.avermentUniqueRow.loops == (Tryz.f4.params.toList ++ Rows.avermentUniqueSpec.plain.varTypes Tryz.prog).any (Tryz.prog.loopsFrom ·)) = true := by kernel_rfl
theorem g17 : (Rows.avermentUniqueRow.wideKeys == (Tryz.f4.params.toList ++ Rows.avermentUniqueSpec.plain.varTypes Tryz.prog ++ Tryz.f4.resultTypes.toList).any (Tryz.prog.wideKeysFrom ·)) = true := by kernel_rfl
theorem g18 : (Rows.avermentUniqueSpec.vars.all (Tryz.prog.varReadable ·)) = true := by kernel_rfl
theorem g19 : (Tryz.f4.resultTypes.all (fun t => Tryz.prog.readableRec t && decide (t < Tryz.prog.types.size))) = true := by kernel_rfl
theorem g20 : (Rows.avermentUniqueRow.ifacesOut == Tryz.f4.resultTypes.toList.any (Tryz.prog.ifacesRec ·)) = true := by kernel_rfl
theorem g21 : (Rows.avermentUniqueRow.loopsOut == Tryz.f4.resultTypes.toList.any (Tryz.prog.loopsFrom ·)) = true := by kernel_rfl
theorem g22 : (Rows.avermentUniqueRow.plainKeys == Tryz.prog.plainKeys) = true := by kernel_rfl
theorem g23 : (Rows.avermentUniqueRow.shortTexts.isNone) = true := by kernel_rfl
theorem g24 : (Tryz.prog.stopsHeard) = true := by kernel_rfl
theorem g25 : (Tryz.prog.mayEnter) = true := by kernel_rfl
theorem g26 : (Rows.avermentUniqueRow.lifted == Tryz.prog.liftsFinal) = true := by kernel_rfl
theorem g27 : (Tryz.prog.make == some Rows.avermentUniqueRow.make) = true := by kernel_rfl
theorem g29 : (Rows.avermentUniqueRow.pinned == Rows.avermentUniqueRow.pinnedBy) = true := by kernel_rfl
theorem g30 : (Rows.avermentUniqueRow.veiled == (Tryz.f4.params.toList ++ Rows.avermentUniqueSpec.plain.varTypes Tryz.prog ++ Tryz.f4.resultTypes.toList).any (Tryz.prog.veiledRec ·)) = true := by kernel_rfl
theorem g31 : (Rows.avermentUniqueRow.veiledFits Tryz.prog Tryz.f4.params.toList (Tryz.f4.params.toList ++ Rows.avermentUniqueSpec.plain.varTypes Tryz.prog ++ Tryz.f4.resultTypes.toList)) = true := by kernel_rfl
theorem facts : joinedFacts Tryz.prog 4 Tryz.f4 Rows.avermentUniqueSpec Rows.avermentUniqueRow = true := q5p (q5p (q5p (q5p (q5p (q5p (q5p (q5p (q5p (q5p (q5p (q5p (q5p (q5p (q5p (q5p (q5p (q5p (q5p (q5p (q5p (q5p (q5p (q5p (q5p (q5p (q5p (q5p (q5p (q5p (q5p g0 g1) g2) g3) g4) g5) g6) g7) g8) g9) g10) g11) g12) g13) g14) g15) g16) g17) g18) g19) g20) g21) g22) g23) g24) g25) g26) g27) (by kernel_rfl)) g29) g30) g31
end Go.Proofs.YtdjkdmjdcdljmaaGreatDoor.q7o
