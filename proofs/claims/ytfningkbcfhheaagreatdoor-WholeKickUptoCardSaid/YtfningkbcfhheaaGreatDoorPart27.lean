/- Facts of the row, the small ones. Facts of the row. Facts of the row. Facts of the row. Facts of the row. Facts of the row. -/
import Derived.Test.YtfningkbcfhheaaGreatDoorRows
import Derived.JoinedOf
import Derived.KernelRfl
set_option linter.unusedVariables false
set_option linter.unusedSimpArgs false
namespace Go.Proofs.YtfningkbcfhheaaGreatDoor
open Go
set_option maxRecDepth 100000
namespace WholeKick
theorem j0 : (Rows.wholeKickUptoRow.wf (OpenSpec.ofChange (Rows.OpenSpec.upto Rows.wholeKickSpec).bare)) = true := by kernel_rfl
theorem j3 : (Tryz.f5.params.all (Tryz.pinned.checked.prog.readableRec ·)) = true := by kernel_rfl
theorem j4 : (namedTie Tryz.pinned.checked.prog Rows.wholeKickUptoRow.named (Rows.OpenSpec.upto Rows.wholeKickSpec).bare.vars) = true := by kernel_rfl
theorem j5 : ((Rows.wholeKickUptoRow.stops == [])) = true := by kernel_rfl
theorem j7 : ((Rows.wholeKickUptoRow.knobs == [])) = true := by kernel_rfl
theorem j13 : ((Rows.wholeKickUptoRow.maps == (Tryz.f5.params.toList ++ (Rows.OpenSpec.upto Rows.wholeKickSpec).bare.plain.varTypes Tryz.pinned.checked.prog).any (Tryz.pinned.checked.prog.mapsRec ·))) = true := by kernel_rfl
theorem j14 : ((Rows.wholeKickUptoRow.ifaces == (Tryz.f5.params.toList ++ (Rows.OpenSpec.upto Rows.wholeKickSpec).bare.plain.varTypes Tryz.pinned.checked.prog).any (Tryz.pinned.checked.prog.ifacesRec ·))) = true := by kernel_rfl
theorem j15 : ((Rows.wholeKickUptoRow.mapsOut == Tryz.pinned.checked.prog.mapsAmong Tryz.f5.resultTypes.toList)) = true := by kernel_rfl
theorem j16 : ((Rows.wholeKickUptoRow.loops == (Tryz.f5.params.toList ++ (Rows.OpenSpec.upto Rows.wholeKickSpec).bare.plain.varTypes Tryz.pinned.checked.prog).any (Tryz.pinned.checked.prog.loopsFrom ·))) = true := by kernel_rfl
theorem j17 : ((Rows.wholeKickUptoRow.wideKeys == (Tryz.f5.params.toList ++ (Rows.OpenSpec.upto Rows.wholeKickSpec).bare.plain.varTypes Tryz.pinned.checked.prog ++ Tryz.f5.resultTypes.toList).any (Tryz.pinned.checked.prog.wideKeysFrom ·))) = true := by kernel_rfl
theorem j18 : ((Rows.OpenSpec.upto Rows.wholeKickSpec).bare.vars.all (Tryz.pinned.checked.prog.varReadable ·)) = true := by kernel_rfl
theorem j19 : (Tryz.f5.resultTypes.all (fun t => Tryz.pinned.checked.prog.readableRec t && decide (t < Tryz.pinned.checked.prog.types.size))) = true := by kernel_rfl
theorem j20 : ((Rows.wholeKickUptoRow.ifacesOut == Tryz.f5.resultTypes.toList.any (Tryz.pinned.checked.prog.ifacesRec ·))) = true := by kernel_rfl
theorem j21 : ((Rows.wholeKickUptoRow.loopsOut == Tryz.f5.resultTypes.toList.any (Tryz.pinned.checked.prog.loopsFrom ·))) = true := by kernel_rfl
theorem j23 : (Rows.wholeKickUptoRow.shortTexts.isNone) = true := by kernel_rfl
theorem j28 : ((Rows.wholeKickUptoRow.kinds == (if Rows.wholeKickUptoRow.domain.isEmpty then [] else Tryz.f5.params.toList.map fun t => match Tryz.pinned.checked.prog.underlying t with | some (.int k) => some k | _ => none))) = true := by kernel_rfl
theorem j29 : ((Rows.wholeKickUptoRow.pinned == Rows.wholeKickUptoRow.pinnedBy)) = true := by kernel_rfl
theorem j30 : ((Rows.wholeKickUptoRow.veiled == (Tryz.f5.params.toList ++ (Rows.OpenSpec.upto Rows.wholeKickSpec).bare.plain.varTypes Tryz.pinned.checked.prog ++ Tryz.f5.resultTypes.toList).any (Tryz.pinned.checked.prog.veiledRec ·))) = true := by kernel_rfl
theorem j31 : (Rows.wholeKickUptoRow.veiledFits Tryz.pinned.checked.prog Tryz.f5.params.toList (Tryz.f5.params.toList ++ (Rows.OpenSpec.upto Rows.wholeKickSpec).bare.plain.varTypes Tryz.pinned.checked.prog ++ Tryz.f5.resultTypes.toList)) = true := by kernel_rfl
end WholeKick
namespace WholeKick
theorem j6 : ((Tryz.pinned.checked.prog.stops == [])) = true := by kernel_rfl
end WholeKick
namespace WholeKick
theorem j8 : ((Tryz.pinned.checked.prog.stopKnobs == [])) = true := by kernel_rfl
end WholeKick
namespace WholeKick
theorem j22 : ((Rows.wholeKickUptoRow.plainKeys == Tryz.pinned.checked.prog.plainKeys)) = true := by kernel_rfl
end WholeKick
namespace WholeKick
theorem j26 : ((Rows.wholeKickUptoRow.lifted == Tryz.pinned.checked.prog.liftsFinal)) = true := by kernel_rfl
end WholeKick
namespace WholeKick
theorem j27 : ((Tryz.pinned.checked.prog.make == some Rows.wholeKickUptoRow.make)) = true := by kernel_rfl
end WholeKick
end Go.Proofs.YtfningkbcfhheaaGreatDoor
