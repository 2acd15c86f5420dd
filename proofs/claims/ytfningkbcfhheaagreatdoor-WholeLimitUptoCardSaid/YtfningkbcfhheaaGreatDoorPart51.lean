/- The contract of the law. The law, in the row's form. -/
import Derived.Test.YtfningkbcfhheaaGreatDoorJnZ
import Derived.Test.YtfningkbcfhheaaGreatDoorPart32
import Derived.Test.YtfningkbcfhheaaGreatDoorPart5
import Derived.Test.YtfningkbcfhheaaGreatDoorCards
import Derived.WalkKit
import Derived.ProofKit
import Derived.OpenShut
import Derived.Deep.DeepHandedRow
import Derived.Lib.LaidTab
import Derived.Lay
import Derived.Deep.DeepWitnessRowRef
import Derived.Test.YtfningkbcfhheaaGreatDoorTwE
import Derived.Test.YtfningkbcfhheaaGreatDoorTwF
import Derived.Test.YtfningkbcfhheaaGreatDoorPart50
set_option linter.unusedVariables false
set_option linter.unusedSimpArgs false
namespace Go.Proofs.YtfningkbcfhheaaGreatDoor
open Go.Proofs.YtfningkbcfhheaaGreatDoor.HL Go.ChangeShapes Go.WideShapes Go.ChangeAt Go.RowKit Go.ChangeMaps
set_option linter.unusedVariables false
set_option maxRecDepth 100000
namespace WholeLimit
theorem own : ownKnob Tryz.prog.godebug = none := by kernel_rfl
theorem laid : laidOutB Tryz.prog = true := j1
theorem contract (H : Type) (enc : TypeId × Value → H) (W : World) (base : Nat) (args : Array Value) (ds gs : List (DataW H)) (before : List MemPlace)
    (hval : ∀ (j : Nat) t v, Tryz.f6.params[j]? = some t → args[j]? = some v → Value.okWide Tryz.prog W .any base t v)
    (hW : DataW.Whole enc Tryz.prog Tryz.f6.params.toList Rows.wholeLimitSpec.vars false W args.toList ds gs before) :
    Calls Tryz.prog 6 args W fun e W' => ∃ v, e = .returned v ∧ Rows.wholeLimitSpec.post enc Tryz.prog Tryz.f6 false true false false W args v W' := by
  have hW' := hW
  obtain ⟨p, q, hA0, hV, hpq, hfz, hnd⟩ := hW
  have hA : DataW.TrodAll enc Tryz.prog W 0 (fun _ => true) true Tryz.f6.params.toList args.toList ds p := hA0
  rw [Tryz.params6] at hA hval
  obtain ⟨v0, vs0, d0, ds0, p0, q0, hargs, rfl, rfl, h0, hA⟩ := trodAll_cons hA
  obtain ⟨rfl, rfl, rfl⟩ := trodAll_nil hA
  obtain rfl : args = #[v0] := by cases args; simp_all
  obtain ⟨x0, rfl, rfl, rfl, w0⟩ := open_int Tryz.underlying5 (hval 0 5 v0 rfl rfl) h0
  have hrel := rel0 W
  have hc := X.wholeLimit_call W x0 w0
  refine (hc.calls hrel (.cons (.int _ _) (.nil _)) (fun v S1 h => h)).mono fun e W' ⟨he, hb⟩ => ⟨_, he, post_true laid (by kernel_rfl) rfl rfl hW' hb (by kernel_rfl) Tryz.underlying4⟩
end WholeLimit
namespace WholeLimit
theorem noInit : Tryz.prog.inits.idxOf? 6 = none := by kernel_rfl
theorem liftedUpto (os : Os) (started : os.Started) (H : Type) (enc : TypeId × Value → H) (F : Stop.Interp) :
    ReturnsInHanded {} Tryz.checked os 6 .any ((Rows.OpenSpec.upto Rows.wholeLimitSpec).preRow enc Tryz.prog Tryz.f6 Rows.wholeLimitUptoRow.domain false Rows.wholeLimitUptoRow.laid) (((Rows.OpenSpec.upto Rows.wholeLimitSpec).at F).post enc Tryz.prog Tryz.f6 false true false false) := by
  refine returnsInHanded_of_row (C := Tryz.checked) (s := Rows.OpenSpec.upto Rows.wholeLimitSpec) own started noInit Tryz.func6
    (witness_row_atRef (enc := enc) (C := Tryz.checked) false (laidWorld os) #[.int .u8 0] (World.laidAll_os _ _ _) (wf1 os) (wf2 os) (wf3 os) (preRow os H enc)) ?_
  intro W base args ds gs before hval hW _ _ _ hL _ _
  exact contract H enc W base args ds gs before hval hW
end WholeLimit
end Go.Proofs.YtfningkbcfhheaaGreatDoor
