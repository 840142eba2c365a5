/- The law AvermentEnds, in parts: this text is packed by program (names shortened). No condition. -/
import Derived.Test.YtdjkdmjdcdljmaaGreatDoorRows
import Derived.JoinedOf
namespace Go.Proofs.YtdjkdmjdcdljmaaGreatDoor.q7m
theorem q43 {a b : Bool} (h : a = true) (g : b = true) : (a && b) = true := by rw [h, g]; rfl
theorem g0 : (Rows.avermentEndsRow.wf (OpenSpec.ofChange Rows.avermentEndsSpec)) = true := by kernel_rfl
theorem g1 : (laidOutB Tryz.prog) = true := by kernel_rfl
theorem g2 : (mapsRowed Tryz.prog) = true := by kernel_rfl
theorem g3 : (Tryz.f3.params.all (Tryz.prog.readableRec ·)) = true := by kernel_rfl
theorem g4 : (namedTie Tryz.prog Rows.avermentEndsRow.named Rows.avermentEndsSpec.vars) = true := by kernel_rfl
theorem g5 : (Rows.avermentEndsRow.stops == []) = true := by kernel_rfl
theorem g6 : (Tryz.prog.stops == []) = true := by kernel_rfl
theorem g7 : (Rows.avermentEndsRow.knobs == []) = true := by kernel_rfl
theorem g8 : (Tryz.prog.stopKnobs == []) = true := by kernel_rfl
theorem g9 : (Rows.avermentEndsRow.inPlace == Tryz.prog.inPlace 3) = true := by kernel_rfl
theorem g10 : (Rows.avermentEndsRow.unfollowed == Tryz.prog.unfollowed 3) = true := by kernel_rfl
theorem g11 : (Rows.avermentEndsRow.recurses == Tryz.prog.recurses 3) = true := by kernel_rfl
theorem g12 : (Rows.avermentEndsRow.named == Tryz.prog.varsNamed 3) = true := by kernel_rfl
theorem g13 : (Rows.avermentEndsRow.maps == (Tryz.f3.params.toList ++ Rows.avermentEndsSpec.plain.varTypes Tryz.prog).any (Tryz.prog.mapsRec ·)) = true := by kernel_rfl
theorem g14 : (Rows.avermentEndsRow.ifaces == (Tryz.f3.params.toList ++ Rows.avermentEndsSpec.plain.varTypes Tryz.prog).any (Tryz.prog.ifacesRec ·)) = true := by kernel_rfl
theorem g15 : (Rows.avermentEndsRow.mapsOut == Tryz.prog.mapsAmong Tryz.f3.resultTypes.toList) = true := by kernel_rfl
theorem g16 : (Rows.avermentEndsRow.loops == (Tryz.f3.params.toList ++ Rows.avermentEndsSpec.plain.varTypes Tryz.prog).any (Tryz.prog.loopsFrom ·)) = true := by kernel_rfl
theorem g17 : (Rows.avermentEndsRow.wideKeys == (Tryz.f3.params.toList ++ Rows.avermentEndsSpec.plain.varTypes Tryz.prog ++ Tryz.f3.resultTypes.toList).any (Tryz.prog.wideKeysFrom ·)) = true := by kernel_rfl
theorem g18 : (Rows.avermentEndsSpec.vars.all (Tryz.prog.varReadable ·)) = true := by kernel_rfl
theorem g19 : (Tryz.f3.resultTypes.all (fun t => Tryz.prog.readableRec t && decide (t < Tryz.prog.types.size))) = true := by kernel_rfl
theorem g20 : (Rows.avermentEndsRow.ifacesOut == Tryz.f3.resultTypes.toList.any (Tryz.prog.ifacesRec ·)) = true := by kernel_rfl
theorem g21 : (Rows.avermentEndsRow.loopsOut == Tryz.f3.resultTypes.toList.any (Tryz.prog.loopsFrom ·)) = true := by kernel_rfl
theorem g22 : (Rows.avermentEndsRow.plainKeys == Tryz.prog.plainKeys) = true := by kernel_rfl
theorem g23 : (Rows.avermentEndsRow.shortTexts.isNone) = true := by kernel_rfl
theorem g24 : (Tryz.prog.stopsHeard) = true := by kernel_rfl
theorem g25 : (Tryz.prog.mayEnter) = true := by kernel_rfl
theorem g26 : (Rows.avermentEndsRow.lifted == Tryz.prog.liftsFinal) = true := by kernel_rfl
theorem g27 : (Tryz.prog.make == some Rows.avermentEndsRow.make) = true := by kernel_rfl
theorem g29 : (Rows.avermentEndsRow.pinned == Rows.avermentEndsRow.pinnedBy) = true := by kernel_rfl
theorem g30 : (Rows.avermentEndsRow.veiled == (Tryz.f3.params.toList ++ Rows.avermentEndsSpec.plain.varTypes Tryz.prog ++ Tryz.f3.resultTypes.toList).any (Tryz.prog.veiledRec ·)) = true := by kernel_rfl
theorem g31 : (Rows.avermentEndsRow.veiledFits Tryz.prog Tryz.f3.params.toList (Tryz.f3.params.toList ++ Rows.avermentEndsSpec.plain.varTypes Tryz.prog ++ Tryz.f3.resultTypes.toList)) = true := by kernel_rfl
theorem facts : joinedFacts Tryz.prog 3 Tryz.f3 Rows.avermentEndsSpec Rows.avermentEndsRow = true := q43 (q43 (q43 (q43 (q43 (q43 (q43 (q43 (q43 (q43 (q43 (q43 (q43 (q43 (q43 (q43 (q43 (q43 (q43 (q43 (q43 (q43 (q43 (q43 (q43 (q43 (q43 (q43 (q43 (q43 (q43 g0 g1) g2) g3) g4) g5) g6) g7) g8) g9) g10) g11) g12) g13) g14) g15) g16) g17) g18) g19) g20) g21) g22) g23) g24) g25) g26) g27) (by kernel_rfl)) g29) g30) g31
end Go.Proofs.YtdjkdmjdcdljmaaGreatDoor.q7m
