/- Two functions of the library, by the kit's contracts, laid at this program. -/
import Derived.Test.YtgplnlknejbglaaDoorProg
import Derived.Test.YtgplnlknejbglaaDoorHLq
import Derived.Shelf.Strings.Repeat
import Derived.Shelf.Strings.Count
namespace Go.Proofs.YtgplnlknejbglaaDoor.X
open Go.Proofs.YtgplnlknejbglaaDoor.HL Go.RowKit
set_option linter.unusedVariables false
set_option maxRecDepth 100000
/-- The library's numbers here. -/
def ren : Go.Shelf.Ren := ⟨(fun | 99 => 53 | 105 => 36 | 138 => 37 | 143 => 50 | 165 => 54 | 166 => 35 | 169 => 38 | 170 => 55 | 195 => 56 | 206 => 68 | 212 => 52 | 217 => 48 | 218 => 57 | 219 => 64 | 224 => 75 | 225 => 74 | 240 => 51 | 241 => 69 | 263 => 66 | 264 => 67 | 266 => 63 | 267 => 76 | 276 => 65 | 277 => 77 | 314 => 79 | n => n), (fun | 0 => 0 | 3 => 3 | 4 => 4 | 5 => 5 | 9 => 9 | 20 => 20 | 37 => 41 | 46 => 59 | 51 => 72 | 53 => 75 | 70 => 40 | 72 => 43 | 75 => 45 | 76 => 47 | 80 => 51 | 109 => 60 | 127 => 65 | 146 => 73 | 148 => 76 | 164 => 70 | n => n), (fun | 1 => 0 | n => n)⟩
theorem lays105 : Go.Proofs.Lays.n105 Tryd.prog ren :=
  { mixed := by kernel_rfl, f99 := Tryd.func53.trans (congrArg some (by kernel_rfl)), f105 := Tryd.func36.trans (congrArg some (by kernel_rfl)), f165 := Tryd.func54.trans (congrArg some (by kernel_rfl)), f166 := Tryd.func35.trans (congrArg some (by kernel_rfl)), f169 := Tryd.func38.trans (congrArg some (by kernel_rfl)), f170 := Tryd.func55.trans (congrArg some (by kernel_rfl)), f206 := Tryd.func68.trans (congrArg some (by kernel_rfl)), f212 := Tryd.func52.trans (congrArg some (by kernel_rfl)), f240 := Tryd.func51.trans (congrArg some (by kernel_rfl)), f241 := Tryd.func69.trans (congrArg some (by kernel_rfl)), f263 := Tryd.func66.trans (congrArg some (by kernel_rfl)), f264 := Tryd.func67.trans (congrArg some (by kernel_rfl)), f276 := Tryd.func65.trans (congrArg some (by kernel_rfl)), f277 := Tryd.func77.trans (congrArg some (by kernel_rfl)), t0 := Tryd.underlying0, a0 := Tryd.isAgg0, z0 := Tryd.sizeOf0, v0 := Tryd.zeroValue0, t3 := Tryd.underlying3, a3 := Tryd.isAgg3, z3 := Tryd.sizeOf3, v3 := Tryd.zeroValue3, t4 := Tryd.underlying4, a4 := Tryd.isAgg4, z4 := Tryd.sizeOf4, v4 := Tryd.zeroValue4, t5 := Tryd.underlying5, a5 := Tryd.isAgg5, z5 := Tryd.sizeOf5, v5 := Tryd.zeroValue5, t9 := Tryd.underlying9, a9 := Tryd.isAgg9, z9 := Tryd.sizeOf9, v9 := Tryd.zeroValue9, t20 := Tryd.underlying20, a20 := Tryd.isAgg20, z20 := Tryd.sizeOf20, v20 := Tryd.zeroValue20, t37 := Tryd.underlying41, a37 := Tryd.isAgg41, z37 := Tryd.sizeOf41, v37 := Tryd.zeroValue41, t46 := Tryd.underlying59, a46 := Tryd.isAgg59, z46 := Tryd.sizeOf59, v46 := Tryd.zeroValue59, t51 := Tryd.underlying72, a51 := Tryd.isAgg72, z51 := Tryd.sizeOf72, v51 := Tryd.zeroValue72, t53 := Tryd.underlying75, a53 := Tryd.isAgg75, z53 := Tryd.sizeOf75, v53 := Tryd.zeroValue75, t70 := Tryd.underlying40, a70 := Tryd.isAgg40, z70 := Tryd.sizeOf40, v70 := Tryd.zeroValue40, t72 := Tryd.underlying43, a72 := Tryd.isAgg43, z72 := Tryd.sizeOf43, v72 := Tryd.zeroValue43, t75 := Tryd.underlying45, a75 := Tryd.isAgg45, z75 := Tryd.sizeOf45, v75 := Tryd.zeroValue45, t76 := Tryd.underlying47, a76 := Tryd.isAgg47, z76 := Tryd.sizeOf47, v76 := Tryd.zeroValue47, t109 := Tryd.underlying60, a109 := Tryd.isAgg60, z109 := Tryd.sizeOf60, v109 := Tryd.zeroValue60, t127 := Tryd.underlying65, a127 := Tryd.isAgg65, z127 := Tryd.sizeOf65, v127 := Tryd.zeroValue65, t146 := Tryd.underlying73, a146 := Tryd.isAgg73, z146 := Tryd.sizeOf73, v146 := Tryd.zeroValue73, t148 := Tryd.underlying76, a148 := Tryd.isAgg76, z148 := Tryd.sizeOf76, v148 := Tryd.zeroValue76, t164 := Tryd.underlying70, a164 := Tryd.isAgg70, z164 := Tryd.sizeOf70, v164 := Tryd.zeroValue70 }
theorem lays138 : Go.Proofs.Lays.n138 Tryd.prog ren :=
  { mixed := by kernel_rfl, f138 := Tryd.func37.trans (congrArg some (by kernel_rfl)), f143 := Tryd.func50.trans (congrArg some (by kernel_rfl)), f195 := Tryd.func56.trans (congrArg some (by kernel_rfl)), f217 := Tryd.func48.trans (congrArg some (by kernel_rfl)), f218 := Tryd.func57.trans (congrArg some (by kernel_rfl)), f219 := Tryd.func64.trans (congrArg some (by kernel_rfl)), f224 := Tryd.func75.trans (congrArg some (by kernel_rfl)), f225 := Tryd.func74.trans (congrArg some (by kernel_rfl)), f266 := Tryd.func63.trans (congrArg some (by kernel_rfl)), f267 := Tryd.func76.trans (congrArg some (by kernel_rfl)), f314 := Tryd.func79.trans (congrArg some (by kernel_rfl)), t0 := Tryd.underlying0, a0 := Tryd.isAgg0, z0 := Tryd.sizeOf0, v0 := Tryd.zeroValue0, t3 := Tryd.underlying3, a3 := Tryd.isAgg3, z3 := Tryd.sizeOf3, v3 := Tryd.zeroValue3, t4 := Tryd.underlying4, a4 := Tryd.isAgg4, z4 := Tryd.sizeOf4, v4 := Tryd.zeroValue4, t5 := Tryd.underlying5, a5 := Tryd.isAgg5, z5 := Tryd.sizeOf5, v5 := Tryd.zeroValue5, t9 := Tryd.underlying9, a9 := Tryd.isAgg9, z9 := Tryd.sizeOf9, v9 := Tryd.zeroValue9, t46 := Tryd.underlying59, a46 := Tryd.isAgg59, z46 := Tryd.sizeOf59, v46 := Tryd.zeroValue59, t51 := Tryd.underlying72, a51 := Tryd.isAgg72, z51 := Tryd.sizeOf72, v51 := Tryd.zeroValue72, t146 := Tryd.underlying73, a146 := Tryd.isAgg73, z146 := Tryd.sizeOf73, v146 := Tryd.zeroValue73, g1 := by kernel_rfl }
theorem bextra : Go.Proofs.Builder.Extra Tryd.prog ren :=
  { sizeBuilder := by kernel_rfl, liesBuilder := by kernel_rfl, t5 := Tryd.underlying5, a5 := Tryd.isAgg5, z5 := Tryd.sizeOf5, v5 := Tryd.zeroValue5, infoByte := by kernel_rfl, cellsByte := by kernel_rfl, sizeByte := by kernel_rfl, neB5 := by decide }
namespace strings_Count
theorem at_ : FnAt Tryd.prog 37 Tryd.f37 := ⟨Tryd.func37, by kernel_rfl⟩
theorem body : Tryd.f37.body = some ((Tryd.f37.body).getD .skip) := by kernel_rfl
def f (x0 : (List UInt8)) (x1 : (List UInt8)) : Option Int := match x1 with
  | [c] => some (Lib.countByte x0 c : Int)
  | _ => none
theorem snd {base : Nat} {W0 : World} {β0 : Bt} {x0 : (List UInt8)} {x1 : (List UInt8)} {S : HS} {p : Int} (h : f x0 x1 = some p) : HCall Tryd.prog base W0 β0 37 [(.str x0), (.str x1)] S (fun v S1 => v = (.int .i64 p) ∧ S1 = S) := by
  unfold f at h
  split at h
  · cases h
    refine HCall.of_calls fun β w args' hr ha => ?_
    obtain ⟨u1, u2, rfl, r1, r2⟩ := ha.two
    cases r1; cases r2
    exact ⟨_, .int _ _, (Any.strings_Count_one lays138 _ _ w).mono fun e w' ⟨he, hw⟩ => ⟨he, hw ▸ Below.refl _ _⟩⟩
  · cases h
end strings_Count
namespace strings_Repeat
theorem at_ : FnAt Tryd.prog 36 Tryd.f36 := ⟨Tryd.func36, by kernel_rfl⟩
theorem body : Tryd.f36.body = some ((Tryd.f36.body).getD .skip) := by kernel_rfl
def f (x0 : (List UInt8)) (x1 : Int) : Option (List UInt8) :=
  if 0 ≤ x1 ∧ x1 ≤ 140737488355328 ∧ x0.length * x1.toNat ≤ 140737488355328 then some (Lib.repeatL x0 x1.toNat) else none
theorem snd {base : Nat} {W0 : World} {β0 : Bt} {x0 : (List UInt8)} {x1 : Int} {S : HS} {p : List UInt8} (h : f x0 x1 = some p) : HCall Tryd.prog base W0 β0 36 [(.str x0), (.int .i64 x1)] S (fun v S1 => v = (.str p) ∧ S1 = S) := by
  unfold f at h
  split at h
  · rename_i hc
    cases h
    refine HCall.of_calls fun β w args' hr ha => ?_
    obtain ⟨u1, u2, rfl, r1, r2⟩ := ha.two
    cases r1; cases r2
    obtain ⟨n, rfl⟩ : ∃ n : Nat, x1 = n := ⟨x1.toNat, by omega⟩
    exact ⟨_, .str _, Any.strings_Repeat lays105 bextra ⟨x0.toArray⟩ n w (by omega) (by simpa [size_mk] using hc.2.2)⟩
  · cases h
end strings_Repeat
end Go.Proofs.YtgplnlknejbglaaDoor.X
