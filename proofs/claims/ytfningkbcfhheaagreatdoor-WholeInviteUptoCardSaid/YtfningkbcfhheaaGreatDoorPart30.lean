/- Facts of the row, the small ones. Facts of the row. Facts of the row. Facts of the row. Facts of the row. Facts of the row. -/
import Derived.Test.YtfningkbcfhheaaGreatDoorRows
import Derived.JoinedOf
import Derived.KernelRfl
set_option linter.unusedVariables false
set_option linter.unusedSimpArgs false
namespace Go.Proofs.YtfningkbcfhheaaGreatDoor
open Go
set_option maxRecDepth 100000
namespace WholeInvite
theorem j0 : (Rows.wholeInviteUptoRow.wf (OpenSpec.ofChange (Rows.OpenSpec.upto Rows.wholeInviteSpec).bare)) = true := by kernel_rfl
theorem j3 : (Tryz.f4.params.all (Tryz.pinned.checked.prog.readableRec ·)) = true := by kernel_rfl
theorem j4 : (namedTie Tryz.pinned.checked.prog Rows.wholeInviteUptoRow.named (Rows.OpenSpec.upto Rows.wholeInviteSpec).bare.vars) = true := by kernel_rfl
theorem j5 : ((Rows.wholeInviteUptoRow.stops == [])) = true := by kernel_rfl
theorem j7 : ((Rows.wholeInviteUptoRow.knobs == [])) = true := by kernel_rfl
theorem j13 : ((Rows.wholeInviteUptoRow.maps == (Tryz.f4.params.toList ++ (Rows.OpenSpec.upto Rows.wholeInviteSpec).bare.plain.varTypes Tryz.pinned.checked.prog).any (Tryz.pinned.checked.prog.mapsRec ·))) = true := by kernel_rfl
theorem j14 : ((Rows.wholeInviteUptoRow.ifaces == (Tryz.f4.params.toList ++ (Rows.OpenSpec.upto Rows.wholeInviteSpec).bare.plain.varTypes Tryz.pinned.checked.prog).any (Tryz.pinned.checked.prog.ifacesRec ·))) = true := by kernel_rfl
theorem j15 : ((Rows.wholeInviteUptoRow.mapsOut == Tryz.pinned.checked.prog.mapsAmong Tryz.f4.resultTypes.toList)) = true := by kernel_rfl
theorem j16 : ((Rows.wholeInviteUptoRow.loops == (Tryz.f4.params.toList ++ (Rows.OpenSpec.upto Rows.wholeInviteSpec).bare.plain.varTypes Tryz.pinned.checked.prog).any (Tryz.pinned.checked.prog.loopsFrom ·))) = true := by kernel_rfl
theorem j17 : ((Rows.wholeInviteUptoRow.wideKeys == (Tryz.f4.params.toList ++ (Rows.OpenSpec.upto Rows.wholeInviteSpec).bare.plain.varTypes Tryz.pinned.checked.prog ++ Tryz.f4.resultTypes.toList).any (Tryz.pinned.checked.prog.wideKeysFrom ·))) = true := by kernel_rfl
theorem j18 : ((Rows.OpenSpec.upto Rows.wholeInviteSpec).bare.vars.all (Tryz.pinned.checked.prog.varReadable ·)) = true := by kernel_rfl
theorem j19 : (Tryz.f4.resultTypes.all (fun t => Tryz.pinned.checked.prog.readableRec t && decide (t < Tryz.pinned.checked.prog.types.size))) = true := by kernel_rfl
theorem j20 : ((Rows.wholeInviteUptoRow.ifacesOut == Tryz.f4.resultTypes.toList.any (Tryz.pinned.checked.prog.ifacesRec ·))) = true := by kernel_rfl
theorem j21 : ((Rows.wholeInviteUptoRow.loopsOut == Tryz.f4.resultTypes.toList.any (Tryz.pinned.checked.prog.loopsFrom ·))) = true := by kernel_rfl
theorem j23 : (Rows.wholeInviteUptoRow.shortTexts.isNone) = true := by kernel_rfl
theorem j28 : ((Rows.wholeInviteUptoRow.kinds == (if Rows.wholeInviteUptoRow.domain.isEmpty then [] else Tryz.f4.params.toList.map fun t => match Tryz.pinned.checked.prog.underlying t with | some (.int k) => some k | _ => none))) = true := by kernel_rfl
theorem j29 : ((Rows.wholeInviteUptoRow.pinned == Rows.wholeInviteUptoRow.pinnedBy)) = true := by kernel_rfl
theorem j30 : ((Rows.wholeInviteUptoRow.veiled == (Tryz.f4.params.toList ++ (Rows.OpenSpec.upto Rows.wholeInviteSpec).bare.plain.varTypes Tryz.pinned.checked.prog ++ Tryz.f4.resultTypes.toList).any (Tryz.pinned.checked.prog.veiledRec ·))) = true := by kernel_rfl
theorem j31 : (Rows.wholeInviteUptoRow.veiledFits Tryz.pinned.checked.prog Tryz.f4.params.toList (Tryz.f4.params.toList ++ (Rows.OpenSpec.upto Rows.wholeInviteSpec).bare.plain.varTypes Tryz.pinned.checked.prog ++ Tryz.f4.resultTypes.toList)) = true := by kernel_rfl
end WholeInvite
namespace WholeInvite
theorem j6 : ((Tryz.pinned.checked.prog.stops == [])) = true := by kernel_rfl
end WholeInvite
namespace WholeInvite
theorem j8 : ((Tryz.pinned.checked.prog.stopKnobs == [])) = true := by kernel_rfl
end WholeInvite
namespace WholeInvite
theorem j22 : ((Rows.wholeInviteUptoRow.plainKeys == Tryz.pinned.checked.prog.plainKeys)) = true := by kernel_rfl
end WholeInvite
namespace WholeInvite
theorem j26 : ((Rows.wholeInviteUptoRow.lifted == Tryz.pinned.checked.prog.liftsFinal)) = true := by kernel_rfl
end WholeInvite
namespace WholeInvite
theorem j27 : ((Tryz.pinned.checked.prog.make == some Rows.wholeInviteUptoRow.make)) = true := by kernel_rfl
end WholeInvite
end Go.Proofs.YtfningkbcfhheaaGreatDoor
