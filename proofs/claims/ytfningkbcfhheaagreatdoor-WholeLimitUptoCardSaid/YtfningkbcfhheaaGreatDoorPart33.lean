/- Facts of the row, the small ones. Facts of the row. Facts of the row. Facts of the row. Facts of the row. Facts of the row. Facts of the row. Facts of the row. -/
import Derived.Test.YtfningkbcfhheaaGreatDoorRows
import Derived.JoinedOf
import Derived.KernelRfl
set_option linter.unusedVariables false
set_option linter.unusedSimpArgs false
namespace Go.Proofs.YtfningkbcfhheaaGreatDoor
open Go
set_option maxRecDepth 100000
namespace WholeLimit
theorem j0 : (Rows.wholeLimitUptoRow.wf (OpenSpec.ofChange (Rows.OpenSpec.upto Rows.wholeLimitSpec).bare)) = true := by kernel_rfl
theorem j3 : (Tryz.f6.params.all (Tryz.pinned.checked.prog.readableRec ·)) = true := by kernel_rfl
theorem j4 : (namedTie Tryz.pinned.checked.prog Rows.wholeLimitUptoRow.named (Rows.OpenSpec.upto Rows.wholeLimitSpec).bare.vars) = true := by kernel_rfl
theorem j5 : ((Rows.wholeLimitUptoRow.stops == [])) = true := by kernel_rfl
theorem j7 : ((Rows.wholeLimitUptoRow.knobs == [])) = true := by kernel_rfl
theorem j13 : ((Rows.wholeLimitUptoRow.maps == (Tryz.f6.params.toList ++ (Rows.OpenSpec.upto Rows.wholeLimitSpec).bare.plain.varTypes Tryz.pinned.checked.prog).any (Tryz.pinned.checked.prog.mapsRec ·))) = true := by kernel_rfl
theorem j14 : ((Rows.wholeLimitUptoRow.ifaces == (Tryz.f6.params.toList ++ (Rows.OpenSpec.upto Rows.wholeLimitSpec).bare.plain.varTypes Tryz.pinned.checked.prog).any (Tryz.pinned.checked.prog.ifacesRec ·))) = true := by kernel_rfl
theorem j15 : ((Rows.wholeLimitUptoRow.mapsOut == Tryz.pinned.checked.prog.mapsAmong Tryz.f6.resultTypes.toList)) = true := by kernel_rfl
theorem j16 : ((Rows.wholeLimitUptoRow.loops == (Tryz.f6.params.toList ++ (Rows.OpenSpec.upto Rows.wholeLimitSpec).bare.plain.varTypes Tryz.pinned.checked.prog).any (Tryz.pinned.checked.prog.loopsFrom ·))) = true := by kernel_rfl
theorem j17 : ((Rows.wholeLimitUptoRow.wideKeys == (Tryz.f6.params.toList ++ (Rows.OpenSpec.upto Rows.wholeLimitSpec).bare.plain.varTypes Tryz.pinned.checked.prog ++ Tryz.f6.resultTypes.toList).any (Tryz.pinned.checked.prog.wideKeysFrom ·))) = true := by kernel_rfl
theorem j18 : ((Rows.OpenSpec.upto Rows.wholeLimitSpec).bare.vars.all (Tryz.pinned.checked.prog.varReadable ·)) = true := by kernel_rfl
theorem j19 : (Tryz.f6.resultTypes.all (fun t => Tryz.pinned.checked.prog.readableRec t && decide (t < Tryz.pinned.checked.prog.types.size))) = true := by kernel_rfl
theorem j20 : ((Rows.wholeLimitUptoRow.ifacesOut == Tryz.f6.resultTypes.toList.any (Tryz.pinned.checked.prog.ifacesRec ·))) = true := by kernel_rfl
theorem j21 : ((Rows.wholeLimitUptoRow.loopsOut == Tryz.f6.resultTypes.toList.any (Tryz.pinned.checked.prog.loopsFrom ·))) = true := by kernel_rfl
theorem j23 : (Rows.wholeLimitUptoRow.shortTexts.isNone) = true := by kernel_rfl
theorem j28 : ((Rows.wholeLimitUptoRow.kinds == (if Rows.wholeLimitUptoRow.domain.isEmpty then [] else Tryz.f6.params.toList.map fun t => match Tryz.pinned.checked.prog.underlying t with | some (.int k) => some k | _ => none))) = true := by kernel_rfl
theorem j29 : ((Rows.wholeLimitUptoRow.pinned == Rows.wholeLimitUptoRow.pinnedBy)) = true := by kernel_rfl
theorem j30 : ((Rows.wholeLimitUptoRow.veiled == (Tryz.f6.params.toList ++ (Rows.OpenSpec.upto Rows.wholeLimitSpec).bare.plain.varTypes Tryz.pinned.checked.prog ++ Tryz.f6.resultTypes.toList).any (Tryz.pinned.checked.prog.veiledRec ·))) = true := by kernel_rfl
theorem j31 : (Rows.wholeLimitUptoRow.veiledFits Tryz.pinned.checked.prog Tryz.f6.params.toList (Tryz.f6.params.toList ++ (Rows.OpenSpec.upto Rows.wholeLimitSpec).bare.plain.varTypes Tryz.pinned.checked.prog ++ Tryz.f6.resultTypes.toList)) = true := by kernel_rfl
end WholeLimit
namespace WholeLimit
theorem j2 : (mapsRowed Tryz.pinned.checked.prog) = true := by kernel_rfl
end WholeLimit
namespace WholeLimit
theorem j6 : ((Tryz.pinned.checked.prog.stops == [])) = true := by kernel_rfl
end WholeLimit
namespace WholeLimit
theorem j8 : ((Tryz.pinned.checked.prog.stopKnobs == [])) = true := by kernel_rfl
end WholeLimit
namespace WholeLimit
theorem j22 : ((Rows.wholeLimitUptoRow.plainKeys == Tryz.pinned.checked.prog.plainKeys)) = true := by kernel_rfl
end WholeLimit
namespace WholeLimit
theorem j24 : (Tryz.pinned.checked.prog.stopsHeard) = true := by kernel_rfl
end WholeLimit
namespace WholeLimit
theorem j26 : ((Rows.wholeLimitUptoRow.lifted == Tryz.pinned.checked.prog.liftsFinal)) = true := by kernel_rfl
end WholeLimit
namespace WholeLimit
theorem j27 : ((Tryz.pinned.checked.prog.make == some Rows.wholeLimitUptoRow.make)) = true := by kernel_rfl
end WholeLimit
end Go.Proofs.YtfningkbcfhheaaGreatDoor
