/- Functions of the library, by the kit's contracts, laid at this program. -/
import Derived.Test.YtcphapfclncggaaDoorProg
import Derived.Test.YtcphapfclncggaaDoorHLq
import Derived.Shelf.Strings.Count
namespace Go.Proofs.YtcphapfclncggaaDoor.X
open Go.Proofs.YtcphapfclncggaaDoor.HL Go.RowKit
set_option linter.unusedVariables false
set_option maxRecDepth 100000
/-- The library's numbers here. -/
def ren : Go.Shelf.Ren := ⟨(fun | 138 => 59 | 143 => 57 | 195 => 76 | 217 => 56 | 218 => 78 | 219 => 75 | 224 => 93 | 225 => 92 | 266 => 74 | 267 => 94 | 314 => 107 | n => n), (fun | 0 => 0 | 3 => 3 | 4 => 4 | 5 => 5 | 9 => 9 | 46 => 116 | 51 => 125 | 146 => 126 | n => n), (fun | 1 => 0 | n => n)⟩
theorem lays138 : Go.Proofs.Lays.n138 Tryd.prog ren :=
  { mixed := by kernel_rfl, f138 := Tryd.func59.trans (congrArg some (by kernel_rfl)), f143 := Tryd.func57.trans (congrArg some (by kernel_rfl)), f195 := Tryd.func76.trans (congrArg some (by kernel_rfl)), f217 := Tryd.func56.trans (congrArg some (by kernel_rfl)), f218 := Tryd.func78.trans (congrArg some (by kernel_rfl)), f219 := Tryd.func75.trans (congrArg some (by kernel_rfl)), f224 := Tryd.func93.trans (congrArg some (by kernel_rfl)), f225 := Tryd.func92.trans (congrArg some (by kernel_rfl)), f266 := Tryd.func74.trans (congrArg some (by kernel_rfl)), f267 := Tryd.func94.trans (congrArg some (by kernel_rfl)), f314 := Tryd.func107.trans (congrArg some (by kernel_rfl)), t0 := Tryd.underlying0, a0 := Tryd.isAgg0, z0 := Tryd.sizeOf0, v0 := Tryd.zeroValue0, t3 := Tryd.underlying3, a3 := Tryd.isAgg3, z3 := Tryd.sizeOf3, v3 := Tryd.zeroValue3, t4 := Tryd.underlying4, a4 := Tryd.isAgg4, z4 := Tryd.sizeOf4, v4 := Tryd.zeroValue4, t5 := Tryd.underlying5, a5 := Tryd.isAgg5, z5 := Tryd.sizeOf5, v5 := Tryd.zeroValue5, t9 := Tryd.underlying9, a9 := Tryd.isAgg9, z9 := Tryd.sizeOf9, v9 := Tryd.zeroValue9, t46 := Tryd.underlying116, a46 := Tryd.isAgg116, z46 := Tryd.sizeOf116, v46 := Tryd.zeroValue116, t51 := Tryd.underlying125, a51 := Tryd.isAgg125, z51 := Tryd.sizeOf125, v51 := Tryd.zeroValue125, t146 := Tryd.underlying126, a146 := Tryd.isAgg126, z146 := Tryd.sizeOf126, v146 := Tryd.zeroValue126, g1 := by kernel_rfl }
namespace strings_Count
theorem at_ : FnAt Tryd.prog 59 Tryd.f59 := ⟨Tryd.func59, by kernel_rfl⟩
theorem body : Tryd.f59.body = some ((Tryd.f59.body).getD .skip) := by kernel_rfl
def f (x0 : (List UInt8)) (x1 : (List UInt8)) : Option Int := match x1 with
  | [c] => some (Lib.countByte x0 c : Int)
  | _ => none
theorem snd {base : Nat} {W0 : World} {β0 : Bt} {x0 : (List UInt8)} {x1 : (List UInt8)} {S : HS} {p : Int} (h : f x0 x1 = some p) : HCall Tryd.prog base W0 β0 59 [(.str x0), (.str x1)] S (fun v S1 => v = (.int .i64 p) ∧ S1 = S) := by
  unfold f at h
  split at h
  · cases h
    refine HCall.of_calls fun β w args' hr ha => ?_
    obtain ⟨u1, u2, rfl, r1, r2⟩ := ha.two
    cases r1; cases r2
    exact ⟨_, .int _ _, (Any.strings_Count_one lays138 _ _ w).mono fun e w' ⟨he, hw⟩ => ⟨he, hw ▸ Below.refl _ _⟩⟩
  · cases h
end strings_Count
end Go.Proofs.YtcphapfclncggaaDoor.X
