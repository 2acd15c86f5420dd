/- Three functions of the library, by the kit's contracts, laid at this program. Functions of the program, each as a Lean function over the layer HL: a call answers what the Lean function answers, where it answers. -/
import Derived.Test.YtgplnlknejbglaaDoorProg
import Derived.Shelf.Strings.Repeat
import Derived.Shelf.Strings.Count
import Derived.Test.YtgplnlknejbglaaDoorPart9
namespace Go.Proofs.YtgplnlknejbglaaDoor.X
open Go.Proofs.YtgplnlknejbglaaDoor.HL Go.RowKit
set_option linter.unusedVariables false
set_option maxRecDepth 100000
/-- The library's numbers here. -/
def ren : Go.Shelf.Ren := ⟨(fun | 99 => 53 | 105 => 36 | 119 => 78 | 137 => 30 | 138 => 37 | 143 => 50 | 150 => 39 | 152 => 70 | 153 => 58 | 165 => 54 | 166 => 35 | 169 => 38 | 170 => 55 | 195 => 56 | 206 => 68 | 212 => 52 | 217 => 48 | 218 => 57 | 219 => 64 | 224 => 75 | 225 => 74 | 226 => 71 | 227 => 43 | 228 => 59 | 240 => 51 | 241 => 69 | 263 => 66 | 264 => 67 | 266 => 63 | 267 => 76 | 276 => 65 | 277 => 77 | 314 => 79 | n => n),(fun | 0 => 0 | 3 => 3 | 4 => 4 | 5 => 5 | 9 => 9 | 20 => 20 | 21 => 21 | 37 => 41 | 46 => 59 | 51 => 72 | 53 => 75 | 70 => 40 | 72 => 43 | 75 => 45 | 76 => 47 | 80 => 51 | 109 => 60 | 116 => 54 | 117 => 55 | 124 => 58 | 127 => 65 | 146 => 73 | 148 => 76 | 164 => 70 | n => n),(fun | 1 => 0 | n => n)⟩
theorem lays138 : Go.Proofs.Lays.n138 Tryd.prog ren :=
 { mixed := by kernel_rfl,f138 := Tryd.func37.trans (congrArg some (by kernel_rfl)),f143 := Tryd.func50.trans (congrArg some (by kernel_rfl)),f195 := Tryd.func56.trans (congrArg some (by kernel_rfl)),f217 := Tryd.func48.trans (congrArg some (by kernel_rfl)),f218 := Tryd.func57.trans (congrArg some (by kernel_rfl)),f219 := Tryd.func64.trans (congrArg some (by kernel_rfl)),f224 := Tryd.func75.trans (congrArg some (by kernel_rfl)),f225 := Tryd.func74.trans (congrArg some (by kernel_rfl)),f266 := Tryd.func63.trans (congrArg some (by kernel_rfl)),f267 := Tryd.func76.trans (congrArg some (by kernel_rfl)),f314 := Tryd.func79.trans (congrArg some (by kernel_rfl)),t0 := Tryd.underlying0,a0 := Tryd.isAgg0,z0 := Tryd.sizeOf0,v0 := Tryd.zeroValue0,t3 := Tryd.underlying3,a3 := Tryd.isAgg3,z3 := Tryd.sizeOf3,v3 := Tryd.zeroValue3,t4 := Tryd.underlying4,a4 := Tryd.isAgg4,z4 := Tryd.sizeOf4,v4 := Tryd.zeroValue4,t5 := Tryd.underlying5,a5 := Tryd.isAgg5,z5 := Tryd.sizeOf5,v5 := Tryd.zeroValue5,t9 := Tryd.underlying9,a9 := Tryd.isAgg9,z9 := Tryd.sizeOf9,v9 := Tryd.zeroValue9,t46 := Tryd.underlying59,a46 := Tryd.isAgg59,z46 := Tryd.sizeOf59,v46 := Tryd.zeroValue59,t51 := Tryd.underlying72,a51 := Tryd.isAgg72,z51 := Tryd.sizeOf72,v51 := Tryd.zeroValue72,t146 := Tryd.underlying73,a146 := Tryd.isAgg73,z146 := Tryd.sizeOf73,v146 := Tryd.zeroValue73,g1 := by kernel_rfl }
theorem lays105 : Go.Proofs.Lays.n105 Tryd.prog ren :=
 { mixed := by kernel_rfl,f99 := Tryd.func53.trans (congrArg some (by kernel_rfl)),f105 := Tryd.func36.trans (congrArg some (by kernel_rfl)),f165 := Tryd.func54.trans (congrArg some (by kernel_rfl)),f166 := Tryd.func35.trans (congrArg some (by kernel_rfl)),f169 := Tryd.func38.trans (congrArg some (by kernel_rfl)),f170 := Tryd.func55.trans (congrArg some (by kernel_rfl)),f206 := Tryd.func68.trans (congrArg some (by kernel_rfl)),f212 := Tryd.func52.trans (congrArg some (by kernel_rfl)),f240 := Tryd.func51.trans (congrArg some (by kernel_rfl)),f241 := Tryd.func69.trans (congrArg some (by kernel_rfl)),f263 := Tryd.func66.trans (congrArg some (by kernel_rfl)),f264 := Tryd.func67.trans (congrArg some (by kernel_rfl)),f276 := Tryd.func65.trans (congrArg some (by kernel_rfl)),f277 := Tryd.func77.trans (congrArg some (by kernel_rfl)),t0 := Tryd.underlying0,a0 := Tryd.isAgg0,z0 := Tryd.sizeOf0,v0 := Tryd.zeroValue0,t3 := Tryd.underlying3,a3 := Tryd.isAgg3,z3 := Tryd.sizeOf3,v3 := Tryd.zeroValue3,t4 := Tryd.underlying4,a4 := Tryd.isAgg4,z4 := Tryd.sizeOf4,v4 := Tryd.zeroValue4,t5 := Tryd.underlying5,a5 := Tryd.isAgg5,z5 := Tryd.sizeOf5,v5 := Tryd.zeroValue5,t9 := Tryd.underlying9,a9 := Tryd.isAgg9,z9 := Tryd.sizeOf9,v9 := Tryd.zeroValue9,t20 := Tryd.underlying20,a20 := Tryd.isAgg20,z20 := Tryd.sizeOf20,v20 := Tryd.zeroValue20,t37 := Tryd.underlying41,a37 := Tryd.isAgg41,z37 := Tryd.sizeOf41,v37 := Tryd.zeroValue41,t46 := Tryd.underlying59,a46 := Tryd.isAgg59,z46 := Tryd.sizeOf59,v46 := Tryd.zeroValue59,t51 := Tryd.underlying72,a51 := Tryd.isAgg72,z51 := Tryd.sizeOf72,v51 := Tryd.zeroValue72,t53 := Tryd.underlying75,a53 := Tryd.isAgg75,z53 := Tryd.sizeOf75,v53 := Tryd.zeroValue75,t70 := Tryd.underlying40,a70 := Tryd.isAgg40,z70 := Tryd.sizeOf40,v70 := Tryd.zeroValue40,t72 := Tryd.underlying43,a72 := Tryd.isAgg43,z72 := Tryd.sizeOf43,v72 := Tryd.zeroValue43,t75 := Tryd.underlying45,a75 := Tryd.isAgg45,z75 := Tryd.sizeOf45,v75 := Tryd.zeroValue45,t76 := Tryd.underlying47,a76 := Tryd.isAgg47,z76 := Tryd.sizeOf47,v76 := Tryd.zeroValue47,t109 := Tryd.underlying60,a109 := Tryd.isAgg60,z109 := Tryd.sizeOf60,v109 := Tryd.zeroValue60,t127 := Tryd.underlying65,a127 := Tryd.isAgg65,z127 := Tryd.sizeOf65,v127 := Tryd.zeroValue65,t146 := Tryd.underlying73,a146 := Tryd.isAgg73,z146 := Tryd.sizeOf73,v146 := Tryd.zeroValue73,t148 := Tryd.underlying76,a148 := Tryd.isAgg76,z148 := Tryd.sizeOf76,v148 := Tryd.zeroValue76,t164 := Tryd.underlying70,a164 := Tryd.isAgg70,z164 := Tryd.sizeOf70,v164 := Tryd.zeroValue70 }
theorem lays150 : Go.Proofs.Lays.n150 Tryd.prog ren :=
 { mixed := by kernel_rfl,f119 := Tryd.func78.trans (congrArg some (by kernel_rfl)),f137 := Tryd.func30.trans (congrArg some (by kernel_rfl)),f150 := Tryd.func39.trans (congrArg some (by kernel_rfl)),f152 := Tryd.func70.trans (congrArg some (by kernel_rfl)),f153 := Tryd.func58.trans (congrArg some (by kernel_rfl)),f217 := Tryd.func48.trans (congrArg some (by kernel_rfl)),f224 := Tryd.func75.trans (congrArg some (by kernel_rfl)),f225 := Tryd.func74.trans (congrArg some (by kernel_rfl)),f226 := Tryd.func71.trans (congrArg some (by kernel_rfl)),f227 := Tryd.func43.trans (congrArg some (by kernel_rfl)),f228 := Tryd.func59.trans (congrArg some (by kernel_rfl)),f266 := Tryd.func63.trans (congrArg some (by kernel_rfl)),t0 := Tryd.underlying0,a0 := Tryd.isAgg0,z0 := Tryd.sizeOf0,v0 := Tryd.zeroValue0,t3 := Tryd.underlying3,a3 := Tryd.isAgg3,z3 := Tryd.sizeOf3,v3 := Tryd.zeroValue3,t4 := Tryd.underlying4,a4 := Tryd.isAgg4,z4 := Tryd.sizeOf4,v4 := Tryd.zeroValue4,t5 := Tryd.underlying5,a5 := Tryd.isAgg5,z5 := Tryd.sizeOf5,v5 := Tryd.zeroValue5,t9 := Tryd.underlying9,a9 := Tryd.isAgg9,z9 := Tryd.sizeOf9,v9 := Tryd.zeroValue9,t21 := Tryd.underlying21,a21 := Tryd.isAgg21,z21 := Tryd.sizeOf21,v21 := Tryd.zeroValue21,t46 := Tryd.underlying59,a46 := Tryd.isAgg59,z46 := Tryd.sizeOf59,v46 := Tryd.zeroValue59,t116 := Tryd.underlying54,a116 := Tryd.isAgg54,z116 := Tryd.sizeOf54,t117 := Tryd.underlying55,a117 := Tryd.isAgg55,z117 := Tryd.sizeOf55,v117 := Tryd.zeroValue55,t124 := Tryd.underlying58,a124 := Tryd.isAgg58,z124 := Tryd.sizeOf58,v124 := Tryd.zeroValue58 }
theorem bextra : Go.Proofs.Builder.Extra Tryd.prog ren :=
 { sizeBuilder := by kernel_rfl,liesBuilder := by kernel_rfl,t5 := Tryd.underlying5,a5 := Tryd.isAgg5,z5 := Tryd.sizeOf5,v5 := Tryd.zeroValue5,infoByte := by kernel_rfl,cellsByte := by kernel_rfl,sizeByte := by kernel_rfl,neB5 := by decide }
namespace strings_Count
theorem at_ : FnAt Tryd.prog 37 Tryd.f37 := ⟨Tryd.func37,by kernel_rfl⟩
theorem body : Tryd.f37.body = some ((Tryd.f37.body).getD .skip) := by kernel_rfl
def f (x0 : (List UInt8)) (x1 : (List UInt8)) : Option Int := match x1 with
 | [c] => some (Lib.countByte x0 c : Int)
 | _ => none
theorem snd {base : Nat} {W0 : World} {β0 : Bt} {x0 : (List UInt8)} {x1 : (List UInt8)} {S : HS} {p : Int} (h : f x0 x1 = some p) : HCall Tryd.prog base W0 β0 37 [(.str x0),(.str x1)] S (fun v S1 => v = (.int .i64 p) ∧ S1 = S) := by
 unfold f at h
 split at h
 ·cases h
  refine HCall.of_calls fun β w args' hr ha => ?_
  obtain ⟨u1,u2,rfl,r1,r2⟩ := ha.two
  cases r1; cases r2
  exact ⟨_,.int _ _,(Any.strings_Count_one lays138 _ _ w).mono fun e w' ⟨he,hw⟩ => ⟨he,hw ▸ Below.refl _ _⟩⟩
 ·cases h
end strings_Count
namespace strings_Repeat
theorem at_ : FnAt Tryd.prog 36 Tryd.f36 := ⟨Tryd.func36,by kernel_rfl⟩
theorem body : Tryd.f36.body = some ((Tryd.f36.body).getD .skip) := by kernel_rfl
def f (x0 : (List UInt8)) (x1 : Int) : Option (List UInt8) :=
 if 0 ≤ x1 ∧ x1 ≤ 140737488355328 ∧ x0.length * x1.toNat ≤ 140737488355328 then some (Lib.repeatL x0 x1.toNat) else none
theorem snd {base : Nat} {W0 : World} {β0 : Bt} {x0 : (List UInt8)} {x1 : Int} {S : HS} {p : List UInt8} (h : f x0 x1 = some p) : HCall Tryd.prog base W0 β0 36 [(.str x0),(.int .i64 x1)] S (fun v S1 => v = (.str p) ∧ S1 = S) := by
 unfold f at h
 split at h
 ·rename_i hc
  cases h
  refine HCall.of_calls fun β w args' hr ha => ?_
  obtain ⟨u1,u2,rfl,r1,r2⟩ := ha.two
  cases r1; cases r2
  obtain ⟨n,rfl⟩ : ∃ n : Nat,x1 = n := ⟨x1.toNat,by omega⟩
  exact ⟨_,.str _,Any.strings_Repeat lays105 bextra ⟨x0.toArray⟩ n w (by omega) (by simpa [size_mk] using hc.2.2)⟩
 ·cases h
end strings_Repeat
namespace strings_ContainsAny
theorem at_ : FnAt Tryd.prog 39 Tryd.f39 := ⟨Tryd.func39,by kernel_rfl⟩
theorem body : Tryd.f39.body = some ((Tryd.f39.body).getD .skip) := by kernel_rfl
def f (x0 : (List UInt8)) (x1 : (List UInt8)) : Option Bool :=
 if x1 = [42,63] ∧ x0.length < 4294967281 then some (Lib.containsAny x0 [42,63]) else none
theorem snd {base : Nat} {W0 : World} {β0 : Bt} {x0 : (List UInt8)} {x1 : (List UInt8)} {S : HS} {p : Bool} (h : f x0 x1 = some p) : HCall Tryd.prog base W0 β0 39 [(.str x0),(.str x1)] S (fun v S1 => v = (.bool p) ∧ S1 = S) := by
 unfold f at h
 split at h
 ·rename_i hc
  cases h
  obtain ⟨rfl,hc⟩ := hc
  refine HCall.of_calls fun β w args' hr ha => ?_
  obtain ⟨u1,u2,rfl,r1,r2⟩ := ha.two
  cases r1; cases r2
  exact ⟨_,.bool _,containsAny_q lays150 (by kernel_rfl) ⟨x0.toArray⟩ w (by simpa [size_mk] using hc)⟩
 ·cases h
end strings_ContainsAny
end Go.Proofs.YtgplnlknejbglaaDoor.X
namespace Go.Proofs.YtgplnlknejbglaaDoor.X
open Go.Proofs.YtgplnlknejbglaaDoor.HL
set_option linter.unusedVariables false
set_option linter.unusedSimpArgs false
set_option maxRecDepth 20000
set_option maxHeartbeats 4000000
theorem ext63 : ExtAt Tryd.prog 63 Extern.BytealgIndexByte.indexByte := ⟨Tryd.f63, Tryd.func63, by kernel_rfl, by kernel_rfl, by kernel_rfl, by kernel_rfl⟩
theorem tu9 : Tryd.prog.underlying 9 = some .string := by kernel_rfl
theorem tu5 : Tryd.prog.underlying 5 = some (.int .u8) := by kernel_rfl
theorem tu72 : Tryd.prog.underlying 72 = some (.int .u32) := by kernel_rfl
theorem fi43_0 : fieldInfo Tryd.prog 43 0 = some (0, 40, 1) := by kernel_rfl
theorem sc40 : Scalar Tryd.prog 40 := ⟨(.pointer 43), by kernel_rfl, trivial⟩
theorem tu40 : Tryd.prog.underlying 40 = some (.pointer 43) := by kernel_rfl
theorem nz43 : (Tryd.prog.info? 43).map (fun i => decide (i.size ≠ 0)) = some true := by kernel_rfl
theorem tu70 : Tryd.prog.underlying 70 = some .unsafePointer := by kernel_rfl
theorem ext65 : ExtAt Tryd.prog 65 Extern.AbiNoEscape.same := ⟨Tryd.f65, Tryd.func65, by kernel_rfl, by kernel_rfl, by kernel_rfl, by kernel_rfl⟩
theorem ih43 : (Tryd.prog.info? 43).isSome = true := by kernel_rfl
theorem cz43 : 2 = Tryd.prog.cellsOf 43 := by kernel_rfl
theorem sz40 : ∃ q, Tryd.prog.info? 40 = some q ∧ q.size = 1 := size_mk' (by kernel_rfl)
theorem fi43_1 : fieldInfo Tryd.prog 43 1 = some (1, 41, 1) := by kernel_rfl
theorem sc41 : Scalar Tryd.prog 41 := ⟨(.slice 5), by kernel_rfl, trivial⟩
theorem el41 : ElemAt Tryd.prog 41 5 1 [(.int .u8 0)] := elemAt_mk (zv := (.int .u8 0)) (by_ := 1) (by kernel_rfl) (by kernel_rfl) (by decide) (fun β => VRels.cons (.int _ _) (VRels.nil β)) rfl (by decide) rfl
theorem tu41 : Tryd.prog.underlying 41 = some (.slice 5) := by kernel_rfl
theorem sz41 : ∃ q, Tryd.prog.info? 41 = some q ∧ q.size = 1 := size_mk' (by kernel_rfl)
theorem ch5 : Tryd.prog.cellsOf 5 = 1 := by kernel_rfl
theorem tu65 : Tryd.prog.underlying 65 = some (.pointer 5) := by kernel_rfl
theorem zi43 : (Tryd.prog.info? 43).map (·.zero) = some (some (.agg #[(.pointer none), (.slice none 0 0)])) := by kernel_rfl
theorem zr43 : ∀ β, VRels β [(.ptr none), (Sl.hv Sl.nil)] (Value.cells (.agg #[(.pointer none), (.slice none 0 0)])) := fun β => VRels.cons (.ptrNil) (VRels.cons (.slNil none) (VRels.nil β))
theorem za54 : (Tryd.prog.info? 54).map (·.zero) = some (some (.agg (Array.replicate 256 (.bool false)))) := by kernel_rfl
theorem ia54 : IsAgg Tryd.prog 54 256 := isAgg_mk2 (by kernel_rfl) (by kernel_rfl)
theorem sz54 : ∃ q, Tryd.prog.info? 54 = some q ∧ q.size = 256 := size_mk' (by kernel_rfl)
theorem ta54 : Tryd.prog.underlying 54 = some (.array 256 4) := by kernel_rfl
theorem sz4 : ∃ q, Tryd.prog.info? 4 = some q ∧ q.size = 1 := size_mk' (by kernel_rfl)
theorem sc4 : Scalar Tryd.prog 4 := ⟨.bool, by kernel_rfl, trivial⟩
theorem tu21 : Tryd.prog.underlying 21 = some (.int .i32) := by kernel_rfl
theorem tu4 : Tryd.prog.underlying 4 = some .bool := by kernel_rfl
namespace internal_stringslite_IndexByte
theorem at_ : FnAt Tryd.prog 48 Tryd.f48 := ⟨Tryd.func48, by kernel_rfl⟩
noncomputable def d0 := (Tryd.f48.body).getD .skip
noncomputable def r1 := kR (kA d0)
noncomputable def r3 := kR (kA (kB d0))
noncomputable def c0 : Code := .seq (.region 0 r1 false) (.seq (.region 1 r3 false) .ret)
theorem body : Tryd.f48.body = some c0 := by kernel_rfl
section
variable {base : Nat} {W0 : World} {β0 : Bt}
def f (x0 : (List UInt8)) (x1 : Int) : Option (Int) :=
  some (bidx x0 x1)
theorem snd {x0 : (List UInt8)} {x1 : Int} {S : HS}  {p : Int} (h : f x0 x1 = some p) : HCall Tryd.prog base W0 β0 48 [(.str x0), (.int .u8 x1)] S (fun v S1 => v = (.int .i64 p) ∧ S1 = S) := by
  unfold f at h
  refine HCall.of_run at_.at_ body ?_
  show HRun Tryd.prog base W0 β0 48 none [.code c0] ⟨[(.str x0), (.int .u8 x1), τ, τ, τ, τ, τ, τ], []⟩ S _
  refine q_seq rfl ?_
  refine q_region rfl rfl ?_
  refine qS 4 rfl (ok_assign · (.int _ _)) ?_
  refine hr_region_end ?_
  try dsimp only [w0, w1, w2, w3]
  refine q_seq rfl ?_
  refine q_region rfl rfl ?_
  refine qS 5 rfl (ok_move · (.tmp rfl)) ?_
  refine qS 6 rfl (ok_move · (.tmp rfl)) ?_
  refine qS 7 rfl (ok_idxByte · ext63 (.tmp rfl) (.tmp rfl)) ?_
  refine qS 4 rfl (ok_assign · (.tmp rfl)) ?_
  refine hr_region_end ?_
  try dsimp only [w0, w1, w2, w3]
  cases h
  exact q_ret rfl at_.at_ rfl (res1 rfl rfl) ⟨rfl, rfl⟩
end
end internal_stringslite_IndexByte
namespace strings_IndexByte
theorem at_ : FnAt Tryd.prog 30 Tryd.f30 := ⟨Tryd.func30, by kernel_rfl⟩
noncomputable def d0 := (Tryd.f30.body).getD .skip
noncomputable def r1 := kR (kA d0)
noncomputable def r3 := kR (kA (kB d0))
noncomputable def c0 : Code := .seq (.region 0 r1 false) (.seq (.region 1 r3 false) .ret)
theorem body : Tryd.f30.body = some c0 := by kernel_rfl
section
variable {base : Nat} {W0 : World} {β0 : Bt}
def f (x0 : (List UInt8)) (x1 : Int) : Option (Int) :=
  (Option.bind (internal_stringslite_IndexByte.f x0 x1) fun p1 =>
  some p1)
theorem snd {x0 : (List UInt8)} {x1 : Int} {S : HS}  {p : Int} (h : f x0 x1 = some p) : HCall Tryd.prog base W0 β0 30 [(.str x0), (.int .u8 x1)] S (fun v S1 => v = (.int .i64 p) ∧ S1 = S) := by
  unfold f at h
  refine HCall.of_run at_.at_ body ?_
  show HRun Tryd.prog base W0 β0 30 none [.code c0] ⟨[(.str x0), (.int .u8 x1), τ, τ, τ, τ, τ, τ], []⟩ S _
  refine q_seq rfl ?_
  refine q_region rfl rfl ?_
  refine qS 4 rfl (ok_assign · (.int _ _)) ?_
  refine hr_region_end ?_
  try dsimp only [w0, w1, w2, w3]
  refine q_seq rfl ?_
  refine q_region rfl rfl ?_
  refine qS 5 rfl (ok_move · (.tmp rfl)) ?_
  refine qS 6 rfl (ok_move · (.tmp rfl)) ?_
  obtain ⟨p1, hp1, h⟩ := bindo h
  refine q_call (dst := some 7) rfl (.func _) (.cons (.tmp rfl) (.cons (.tmp rfl) Evs.nil)) (HInv.static internal_stringslite_IndexByte.at_ internal_stringslite_IndexByte.body (internal_stringslite_IndexByte.snd  hp1)) ?_
  rintro _ _ ⟨rfl, rfl⟩
  refine qS 4 rfl (ok_assign · (.tmp rfl)) ?_
  refine hr_region_end ?_
  try dsimp only [w0, w1, w2, w3]
  cases h
  exact q_ret rfl at_.at_ rfl (res1 rfl rfl) ⟨rfl, rfl⟩
end
end strings_IndexByte
namespace internal_bytealg_Cutover
section
variable {base : Nat} {W0 : World} {β0 : Bt}
end
end internal_bytealg_Cutover
namespace internal_bytealg_hashStr_string
theorem at_ : FnAt Tryd.prog 79 Tryd.f79 := ⟨Tryd.func79, by kernel_rfl⟩
noncomputable def d0 := (Tryd.f79.body).getD .skip
noncomputable def r1 := kR (kA d0)
noncomputable def r3 := kR (kA (kB d0))
noncomputable def d5 := kA (kB (kB d0))
noncomputable def r6 := kR (kA d5)
noncomputable def r11 := kR (kA (kA (kA (kA (kB d5)))))
noncomputable def r17 := kR (kA (kA (kB (kA (kA (kB d5))))))
noncomputable def r18 := kR (kB (kB (kA (kA (kB d5)))))
noncomputable def d19 := kB (kB (kB d0))
noncomputable def r20 := kR (kA d19)
noncomputable def r23 := kR (kA (kA (kB d19)))
noncomputable def d24 := kB (kA (kB d19))
noncomputable def r28 := kR (kA (kA (kA (kA d24))))
noncomputable def d32 := kB (kA (kA d24))
noncomputable def r36 := kR (kA (kA (kA (kA d32))))
noncomputable def r38 := kR (kA (kB (kA (kA (kA d32)))))
noncomputable def r40 := kR (kB (kA (kA d32)))
noncomputable def r41 := kR (kB d32)
noncomputable def r43 := kR (kA (kB (kB d19)))
noncomputable def c42 : Code := .seq (.region 13 r43 false) .ret
noncomputable def c41 : Code := .region 9 r41 false
noncomputable def c40 : Code := .region 12 r40 false
noncomputable def c26 : Code := .seq (.seq (.region 8 r28 false) (.cond (.tmp 25) .skip (.exit 2))) (.seq (.block 3 (.seq (.seq (.region 10 r36 false) (.cond (.tmp 30) (.region 11 r38 false) .skip)) c40)) c41)
noncomputable def c19 : Code := .seq (.region 6 r20 false) (.seq (.seq (.region 7 r23 false) (.block 2 (.loop c26))) c42)
noncomputable def c9 : Code := .seq (.seq (.region 3 r11 false) (.cond (.tmp 12) .skip (.exit 0))) (.seq (.block 1 (.region 5 r17 false)) (.region 4 r18 false))
noncomputable def c0 : Code := .seq (.region 0 r1 false) (.seq (.region 1 r3 false) (.seq (.seq (.region 2 r6 false) (.block 0 (.loop c9))) c19))
theorem body : Tryd.f79.body = some c0 := by kernel_rfl
section
variable {base : Nat} {W0 : World} {β0 : Bt}
def J2 (k : Nat) (rec0 : Int → Int → Int → Int → Option (Int × Int)) (y4 : Int) (y6 : Int) (y7 : Int) (y8 : Int) : Option (Int × Int) :=
  rec0 y4 y6 (IntKind.wrap .u32 (y7 * y7)) (Int.fdiv y8 (2 ^ (min (Int.toNat 1) (IntKind.bits .i64))))
theorem J2_snd {k : Nat} {rec0 : Int → Int → Int → Int → Option (Int × Int)} (hrec0 : ∀ ⦃y4 : Int⦄ ⦃y6 : Int⦄ ⦃y7 : Int⦄ ⦃y8 : Int⦄ ⦃S : HS⦄ ⦃p : Int × Int⦄ ⦃g0 g1 g2 g3 g5 g9 g10 g11 g12 g13 g14 g15 g16 g17 g18 g19 g20 g21 g22 g23 g24 g25 g26 g27 g28 g29 g30 g31 g32 g33 g34 g35 g36 g37 g38 : HV⦄, rec0 y4 y6 y7 y8 = some p → HRun Tryd.prog base W0 β0 79 none [.inLoop c26, .inBlock 2, .code c42] ⟨[g0, g1, g2, g3, (.int .u32 y4), g5, (.int .u32 y6), (.int .u32 y7), (.int .i64 y8), g9, g10, g11, g12, g13, g14, g15, g16, g17, g18, g19, g20, g21, g22, g23, g24, g25, g26, g27, g28, g29, g30, g31, g32, g33, g34, g35, g36, g37, g38], []⟩ S (fun v S1 => v = (.tup [(.int .u32 p.1), (.int .u32 p.2)]) ∧ S1 = S)) {y4 : Int} {y6 : Int} {y7 : Int} {y8 : Int} {S : HS} {p : Int × Int} {g0 g1 g2 g3 g5 g9 g10 g11 g12 g13 g14 g15 g16 g17 g18 g19 g20 g21 g22 g23 g24 g25 g26 g27 g28 g29 g30 g31 g32 g33 g34 g35 g36 g37 g38 : HV} (h : J2 k rec0 y4 y6 y7 y8 = some p) : HRun Tryd.prog base W0 β0 79 none [.code c40, .inBlock 3, .code c41, .inLoop c26, .inBlock 2, .code c42] ⟨[g0, g1, g2, g3, (.int .u32 y4), g5, (.int .u32 y6), (.int .u32 y7), (.int .i64 y8), g9, g10, g11, g12, g13, g14, g15, g16, g17, g18, g19, g20, g21, g22, g23, g24, g25, g26, g27, g28, g29, g30, g31, g32, g33, g34, g35, g36, g37, g38], []⟩ S (fun v S1 => v = (.tup [(.int .u32 p.1), (.int .u32 p.2)]) ∧ S1 = S) := by
  unfold J2 at h
  refine q_region rfl rfl ?_
  refine qS 34 rfl (ok_move · (.tmp rfl)) ?_
  refine qS 35 rfl (ok_move · (.tmp rfl)) ?_
  refine qS 36 rfl (ok_ibin · (.tmp rfl) (.tmp rfl) rfl) ?_
  refine qS 7 rfl (ok_assign · (.tmp rfl)) ?_
  refine hr_region_end ?_
  try dsimp only [w0, w1, w2, w3]
  refine hr_inBlock ?_
  refine q_region rfl rfl ?_
  refine qS 26 rfl (ok_move · (.tmp rfl)) ?_
  refine qS 27 rfl (ok_shr · (.tmp rfl) (.int _ _) (by decide)) ?_
  refine qS 8 rfl (ok_assign · (.tmp rfl)) ?_
  refine hr_region_end ?_
  try dsimp only [w0, w1, w2, w3]
  try dsimp only [w0, w1, w2, w3]
  exact hrec0 h
def L1 (k : Nat) : Nat → Int → Int → Int → Int → Option (Int × Int)
  | 0, _, _, _, _ => none
  | n + 1, y4, y6, y7, y8 =>
    (if y8 > 0 then
    (if (!decide ((iand .i64 y8 1) = 0)) = true then
    J2 k (L1 k n) y4 (IntKind.wrap .u32 (y6 * y7)) y7 y8 else
    J2 k (L1 k n) y4 y6 y7 y8) else
    some (y4, y6))
theorem L1_snd {k : Nat}  : ∀ {n : Nat} ⦃y4 : Int⦄ ⦃y6 : Int⦄ ⦃y7 : Int⦄ ⦃y8 : Int⦄ ⦃S : HS⦄ ⦃p : Int × Int⦄ ⦃g0 g1 g2 g3 g5 g9 g10 g11 g12 g13 g14 g15 g16 g17 g18 g19 g20 g21 g22 g23 g24 g25 g26 g27 g28 g29 g30 g31 g32 g33 g34 g35 g36 g37 g38 : HV⦄, L1 k n y4 y6 y7 y8 = some p → HRun Tryd.prog base W0 β0 79 none [.inLoop c26, .inBlock 2, .code c42] ⟨[g0, g1, g2, g3, (.int .u32 y4), g5, (.int .u32 y6), (.int .u32 y7), (.int .i64 y8), g9, g10, g11, g12, g13, g14, g15, g16, g17, g18, g19, g20, g21, g22, g23, g24, g25, g26, g27, g28, g29, g30, g31, g32, g33, g34, g35, g36, g37, g38], []⟩ S (fun v S1 => v = (.tup [(.int .u32 p.1), (.int .u32 p.2)]) ∧ S1 = S) := by
  intro n
  induction n with
  | zero => intro _ _ _ _ _ _ _ _ _ _ _ _ _ _ _ _ _ _ _ _ _ _ _ _ _ _ _ _ _ _ _ _ _ _ _ _ _ _ _ _ _ h; cases h
  | succ n ih =>
    intro y4 y6 y7 y8 S p g0 g1 g2 g3 g5 g9 g10 g11 g12 g13 g14 g15 g16 g17 g18 g19 g20 g21 g22 g23 g24 g25 g26 g27 g28 g29 g30 g31 g32 g33 g34 g35 g36 g37 g38 h
    simp only [L1] at h
    refine hr_inLoop ?_
    refine q_seq rfl ?_
    refine q_seq rfl ?_
    refine q_region rfl rfl ?_
    refine qS 24 rfl (ok_move · (.tmp rfl)) ?_
    refine qS 25 rfl (ok_ibin · (.tmp rfl) (.int _ _) rfl) ?_
    refine hr_region_end ?_
    try dsimp only [w0, w1, w2, w3]
    rcases ifc h with ⟨hc3, h⟩ | ⟨hc3, h⟩
    · refine q_cond_t rfl (.tmp rfl) (decide_eq_true hc3) ?_
      refine q_skipc rfl ?_
      refine q_seq rfl ?_
      refine q_block rfl ?_
      refine q_seq rfl ?_
      refine q_seq rfl ?_
      refine q_region rfl rfl ?_
      refine qS 28 rfl (ok_move · (.tmp rfl)) ?_
      refine qS 29 rfl (ok_ibin · (.tmp rfl) (.int _ _) rfl) ?_
      refine qS 30 rfl (ok_ibin · (.tmp rfl) (.int _ _) rfl) ?_
      refine hr_region_end ?_
      try dsimp only [w0, w1, w2, w3]
      rcases ifc h with ⟨hc4, h⟩ | ⟨hc4, h⟩
      · refine q_cond_t rfl (.tmp rfl) hc4 ?_
        refine q_region rfl rfl ?_
        refine qS 31 rfl (ok_move · (.tmp rfl)) ?_
        refine qS 32 rfl (ok_move · (.tmp rfl)) ?_
        refine qS 33 rfl (ok_ibin · (.tmp rfl) (.tmp rfl) rfl) ?_
        refine qS 6 rfl (ok_assign · (.tmp rfl)) ?_
        refine hr_region_end ?_
        try dsimp only [w0, w1, w2, w3]
        try dsimp only [w0, w1, w2, w3]
        exact J2_snd ih h
      · refine q_cond_f rfl (.tmp rfl) (bfalse hc4) ?_
        refine q_skipc rfl ?_
        try dsimp only [w0, w1, w2, w3]
        exact J2_snd ih h
    · refine q_cond_f rfl (.tmp rfl) (decide_eq_false hc3) ?_
      refine q_exit rfl rfl ?_
      refine q_seq rfl ?_
      refine q_region rfl rfl ?_
      refine qS 37 rfl (ok_move · (.tmp rfl)) ?_
      refine qS 38 rfl (ok_move · (.tmp rfl)) ?_
      refine qS 2 rfl (ok_assign · (.tmp rfl)) ?_
      refine qS 3 rfl (ok_assign · (.tmp rfl)) ?_
      refine hr_region_end ?_
      try dsimp only [w0, w1, w2, w3]
      cases h
      exact q_ret rfl at_.at_ rfl (res2 rfl rfl rfl) ⟨rfl, rfl⟩
def L0 (k : Nat) : Nat → (List UInt8) → Int → Int → Option (Int × Int)
  | 0, _, _, _ => none
  | n + 1, y0, y4, y5 =>
    (if y5 < (List.length y0 : Int) then
    (Option.bind (sat y0 y5) fun p2 =>
    (L0 k n) y0 (IntKind.wrap .u32 ((IntKind.wrap .u32 (y4 * 16777619)) + (IntKind.wrap .u32 (UInt8.toNat p2 : Int)))) (w64 (y5 + 1))) else
    L1 k k y4 1 16777619 (List.length y0 : Int))
theorem L0_snd {k : Nat}  : ∀ {n : Nat} ⦃y0 : (List UInt8)⦄ ⦃y4 : Int⦄ ⦃y5 : Int⦄ ⦃S : HS⦄ ⦃p : Int × Int⦄ ⦃g1 g2 g3 g6 g7 g8 g9 g10 g11 g12 g13 g14 g15 g16 g17 g18 g19 g20 g21 g22 g23 g24 g25 g26 g27 g28 g29 g30 g31 g32 g33 g34 g35 g36 g37 g38 : HV⦄, L0 k n y0 y4 y5 = some p → HRun Tryd.prog base W0 β0 79 none [.inLoop c9, .inBlock 0, .code c19] ⟨[(.str y0), g1, g2, g3, (.int .u32 y4), (.int .i64 y5), g6, g7, g8, g9, g10, g11, g12, g13, g14, g15, g16, g17, g18, g19, g20, g21, g22, g23, g24, g25, g26, g27, g28, g29, g30, g31, g32, g33, g34, g35, g36, g37, g38], []⟩ S (fun v S1 => v = (.tup [(.int .u32 p.1), (.int .u32 p.2)]) ∧ S1 = S) := by
  intro n
  induction n with
  | zero => intro _ _ _ _ _ _ _ _ _ _ _ _ _ _ _ _ _ _ _ _ _ _ _ _ _ _ _ _ _ _ _ _ _ _ _ _ _ _ _ _ _ h; cases h
  | succ n ih =>
    intro y0 y4 y5 S p g1 g2 g3 g6 g7 g8 g9 g10 g11 g12 g13 g14 g15 g16 g17 g18 g19 g20 g21 g22 g23 g24 g25 g26 g27 g28 g29 g30 g31 g32 g33 g34 g35 g36 g37 g38 h
    simp only [L0] at h
    refine hr_inLoop ?_
    refine q_seq rfl ?_
    refine q_seq rfl ?_
    refine q_region rfl rfl ?_
    refine qS 9 rfl (ok_move · (.tmp rfl)) ?_
    refine qS 10 rfl (ok_move · (.tmp rfl)) ?_
    refine qS 11 rfl (ok_len_str · rfl tu9 (.tmp rfl)) ?_
    refine qS 12 rfl (ok_ibin · (.tmp rfl) (.tmp rfl) rfl) ?_
    refine hr_region_end ?_
    try dsimp only [w0, w1, w2, w3]
    rcases ifc h with ⟨hc1, h⟩ | ⟨hc1, h⟩
    · refine q_cond_t rfl (.tmp rfl) (decide_eq_true hc1) ?_
      refine q_skipc rfl ?_
      refine q_seq rfl ?_
      refine q_block rfl ?_
      refine q_region rfl rfl ?_
      refine qS 15 rfl (ok_move · (.tmp rfl)) ?_
      refine qS 16 rfl (ok_ibin · (.tmp rfl) (.int _ _) rfl) ?_
      refine qS 17 rfl (ok_move · (.tmp rfl)) ?_
      refine qS 18 rfl (ok_move · (.tmp rfl)) ?_
      try dsimp only [w0, w1, w2, w3]
      obtain ⟨p2, hp2, h⟩ := bindo h
      refine qS 19 rfl (ok_index_s · tu9 (.tmp rfl) (.tmp rfl) hp2) ?_
      refine qS 20 rfl (ok_conv_int · tu5 tu72 (.tmp rfl)) ?_
      refine qS 21 rfl (ok_ibin · (.tmp rfl) (.tmp rfl) rfl) ?_
      refine qS 4 rfl (ok_assign · (.tmp rfl)) ?_
      refine hr_region_end ?_
      try dsimp only [w0, w1, w2, w3]
      refine hr_inBlock ?_
      refine q_region rfl rfl ?_
      refine qS 13 rfl (ok_move · (.tmp rfl)) ?_
      refine qS 14 rfl (ok_ibin · (.tmp rfl) (.int _ _) rfl) ?_
      refine qS 5 rfl (ok_assign · (.tmp rfl)) ?_
      refine hr_region_end ?_
      try dsimp only [w0, w1, w2, w3]
      try dsimp only [w0, w1, w2, w3]
      exact ih h
    · refine q_cond_f rfl (.tmp rfl) (decide_eq_false hc1) ?_
      refine q_exit rfl rfl ?_
      refine q_seq rfl ?_
      refine q_region rfl rfl ?_
      refine qS 6 rfl (ok_assign · (.int _ _)) ?_
      refine qS 7 rfl (ok_assign · (.int _ _)) ?_
      refine hr_region_end ?_
      try dsimp only [w0, w1, w2, w3]
      refine q_seq rfl ?_
      refine q_seq rfl ?_
      refine q_region rfl rfl ?_
      refine qS 22 rfl (ok_move · (.tmp rfl)) ?_
      refine qS 23 rfl (ok_len_str · rfl tu9 (.tmp rfl)) ?_
      refine qS 8 rfl (ok_assign · (.tmp rfl)) ?_
      refine hr_region_end ?_
      try dsimp only [w0, w1, w2, w3]
      refine q_block rfl ?_
      refine q_loop rfl ?_
      try dsimp only [w0, w1, w2, w3]
      exact L1_snd  h
end
end internal_bytealg_hashStr_string
namespace internal_bytealg_IndexRabinKarp_string
theorem at_ : FnAt Tryd.prog 76 Tryd.f76 := ⟨Tryd.func76, by kernel_rfl⟩
noncomputable def d0 := (Tryd.f76.body).getD .skip
noncomputable def r1 := kR (kA d0)
noncomputable def r3 := kR (kA (kB d0))
noncomputable def r5 := kR (kA (kB (kB d0)))
noncomputable def d6 := kB (kB (kB d0))
noncomputable def r7 := kR (kA d6)
noncomputable def r10 := kR (kA (kA (kB d6)))
noncomputable def d13 := kA (kA (kB (kA (kB d6))))
noncomputable def r15 := kR (kA (kA d13))
noncomputable def r21 := kR (kA (kA (kB d13)))
noncomputable def r22 := kR (kB (kB d13))
noncomputable def r25 := kR (kA (kA (kB (kB d6))))
noncomputable def r28 := kR (kA (kA (kB (kA (kB (kB d6))))))
noncomputable def d31 := kB (kB (kB d6))
noncomputable def r33 := kR (kA (kA d31))
noncomputable def d35 := kA (kB (kA d31))
noncomputable def r38 := kR (kA (kA (kA d35)))
noncomputable def d43 := kA (kB (kA d35))
noncomputable def r44 := kR (kA d43)
noncomputable def r46 := kR (kA (kB d43))
noncomputable def r48 := kR (kA (kB (kB d43)))
noncomputable def r50 := kR (kA (kB (kB (kB d43))))
noncomputable def r52 := kR (kA (kB (kB (kB (kB d43)))))
noncomputable def r55 := kR (kA (kA (kB (kB (kB (kB (kB d43)))))))
noncomputable def r59 := kR (kA (kB d31))
noncomputable def c58 : Code := .seq (.region 18 r59 false) .ret
noncomputable def c53 : Code := .cond (.tmp 77) (.seq (.region 17 r55 false) .ret) .skip
noncomputable def c36 : Code := .seq (.seq (.region 11 r38 false) (.cond (.tmp 44) .skip (.exit 2))) (.block 3 (.seq (.region 12 r44 false) (.seq (.region 13 r46 false) (.seq (.region 14 r48 false) (.seq (.region 15 r50 false) (.seq (.region 16 r52 false) c53))))))
noncomputable def c31 : Code := .seq (.seq (.region 10 r33 false) (.block 2 (.loop c36))) c58
noncomputable def c26 : Code := .cond (.tmp 39) (.seq (.region 9 r28 false) .ret) .skip
noncomputable def c23 : Code := .seq (.seq (.region 8 r25 false) c26) c31
noncomputable def c13 : Code := .seq (.seq (.region 5 r15 false) (.cond (.tmp 20) .skip (.exit 0))) (.seq (.block 1 (.region 7 r21 false)) (.region 6 r22 false))
noncomputable def c0 : Code := .seq (.region 0 r1 false) (.seq (.region 1 r3 false) (.seq (.region 2 r5 false) (.seq (.region 3 r7 false) (.seq (.seq (.region 4 r10 false) (.block 0 (.loop c13))) c23))))
theorem body : Tryd.f76.body = some c0 := by kernel_rfl
section
variable {base : Nat} {W0 : World} {β0 : Bt}
def J3 (k : Nat) (rec0 : (List UInt8) → (List UInt8) → Int → Int → Int → Int → Int → Option (Int)) (y0 : (List UInt8)) (y1 : (List UInt8)) (y5 : Int) (y6 : Int) (y7 : Int) (y8 : Int) (y10 : Int) (y77 : Bool) : Option (Int) :=
  (if y77 = true then
  some (w64 (y10 - y7)) else
  rec0 y0 y1 y5 y6 y7 y8 y10)
theorem J3_snd {k : Nat} {rec0 : (List UInt8) → (List UInt8) → Int → Int → Int → Int → Int → Option (Int)} (hrec0 : ∀ ⦃y0 : (List UInt8)⦄ ⦃y1 : (List UInt8)⦄ ⦃y5 : Int⦄ ⦃y6 : Int⦄ ⦃y7 : Int⦄ ⦃y8 : Int⦄ ⦃y10 : Int⦄ ⦃S : HS⦄ ⦃p : Int⦄ ⦃g2 g3 g4 g9 g11 g12 g13 g14 g15 g16 g17 g18 g19 g20 g21 g22 g23 g24 g25 g26 g27 g28 g29 g30 g31 g32 g33 g34 g35 g36 g37 g38 g39 g40 g41 g42 g43 g44 g45 g46 g47 g48 g49 g50 g51 g52 g53 g54 g55 g56 g57 g58 g59 g60 g61 g62 g63 g64 g65 g66 g67 g68 g69 g70 g71 g72 g73 g74 g75 g76 g77 g78 g79 g80 : HV⦄, rec0 y0 y1 y5 y6 y7 y8 y10 = some p → HRun Tryd.prog base W0 β0 76 none [.inLoop c36, .inBlock 2, .code c58] ⟨[(.str y0), (.str y1), g2, g3, g4, (.int .u32 y5), (.int .u32 y6), (.int .i64 y7), (.int .u32 y8), g9, (.int .i64 y10), g11, g12, g13, g14, g15, g16, g17, g18, g19, g20, g21, g22, g23, g24, g25, g26, g27, g28, g29, g30, g31, g32, g33, g34, g35, g36, g37, g38, g39, g40, g41, g42, g43, g44, g45, g46, g47, g48, g49, g50, g51, g52, g53, g54, g55, g56, g57, g58, g59, g60, g61, g62, g63, g64, g65, g66, g67, g68, g69, g70, g71, g72, g73, g74, g75, g76, g77, g78, g79, g80], []⟩ S (fun v S1 => v = (.int .i64 p) ∧ S1 = S)) {y0 : (List UInt8)} {y1 : (List UInt8)} {y5 : Int} {y6 : Int} {y7 : Int} {y8 : Int} {y10 : Int} {y77 : Bool} {S : HS} {p : Int} {g2 g3 g4 g9 g11 g12 g13 g14 g15 g16 g17 g18 g19 g20 g21 g22 g23 g24 g25 g26 g27 g28 g29 g30 g31 g32 g33 g34 g35 g36 g37 g38 g39 g40 g41 g42 g43 g44 g45 g46 g47 g48 g49 g50 g51 g52 g53 g54 g55 g56 g57 g58 g59 g60 g61 g62 g63 g64 g65 g66 g67 g68 g69 g70 g71 g72 g73 g74 g75 g76 g78 g79 g80 : HV} (h : J3 k rec0 y0 y1 y5 y6 y7 y8 y10 y77 = some p) : HRun Tryd.prog base W0 β0 76 none [.code c53, .inBlock 3, .inLoop c36, .inBlock 2, .code c58] ⟨[(.str y0), (.str y1), g2, g3, g4, (.int .u32 y5), (.int .u32 y6), (.int .i64 y7), (.int .u32 y8), g9, (.int .i64 y10), g11, g12, g13, g14, g15, g16, g17, g18, g19, g20, g21, g22, g23, g24, g25, g26, g27, g28, g29, g30, g31, g32, g33, g34, g35, g36, g37, g38, g39, g40, g41, g42, g43, g44, g45, g46, g47, g48, g49, g50, g51, g52, g53, g54, g55, g56, g57, g58, g59, g60, g61, g62, g63, g64, g65, g66, g67, g68, g69, g70, g71, g72, g73, g74, g75, g76, (.bool y77), g78, g79, g80], []⟩ S (fun v S1 => v = (.int .i64 p) ∧ S1 = S) := by
  unfold J3 at h
  rcases ifc h with ⟨hc12, h⟩ | ⟨hc12, h⟩
  · refine q_cond_t rfl (.tmp rfl) hc12 ?_
    refine q_seq rfl ?_
    refine q_region rfl rfl ?_
    refine qS 78 rfl (ok_move · (.tmp rfl)) ?_
    refine qS 79 rfl (ok_move · (.tmp rfl)) ?_
    refine qS 80 rfl (ok_ibin · (.tmp rfl) (.tmp rfl) rfl) ?_
    refine qS 4 rfl (ok_assign · (.tmp rfl)) ?_
    refine hr_region_end ?_
    try dsimp only [w0, w1, w2, w3]
    cases h
    exact q_ret rfl at_.at_ rfl (res1 rfl rfl) ⟨rfl, rfl⟩
  · refine q_cond_f rfl (.tmp rfl) (bfalse hc12) ?_
    refine q_skipc rfl ?_
    refine hr_inBlock ?_
    try dsimp only [w0, w1, w2, w3]
    exact hrec0 h
def L2 (k : Nat) : Nat → (List UInt8) → (List UInt8) → Int → Int → Int → Int → Int → Option (Int)
  | 0, _, _, _, _, _, _, _ => none
  | n + 1, y0, y1, y5, y6, y7, y8, y10 =>
    (if y10 < (List.length y0 : Int) then
    (Option.bind (sat y0 y10) fun p8 =>
    (Option.bind (sat y0 (w64 (y10 - y7))) fun p9 =>
    (if (IntKind.wrap .u32 ((IntKind.wrap .u32 ((IntKind.wrap .u32 (y8 * 16777619)) + (IntKind.wrap .u32 (UInt8.toNat p8 : Int)))) - (IntKind.wrap .u32 (y6 * (IntKind.wrap .u32 (UInt8.toNat p9 : Int)))))) = y5 then
    (if 0 ≤ ((w64 ((w64 (y10 + 1)) - y7)) : Int) ∧ ((w64 ((w64 (y10 + 1)) - y7)) : Int) ≤ (w64 (y10 + 1)) ∧ ((w64 (y10 + 1)) : Int) ≤ (List.length y0 : Int) then
    J3 k (L2 k n) y0 y1 y5 y6 y7 (IntKind.wrap .u32 ((IntKind.wrap .u32 ((IntKind.wrap .u32 (y8 * 16777619)) + (IntKind.wrap .u32 (UInt8.toNat p8 : Int)))) - (IntKind.wrap .u32 (y6 * (IntKind.wrap .u32 (UInt8.toNat p9 : Int)))))) (w64 (y10 + 1)) (decide ((ssub y0 (w64 ((w64 (y10 + 1)) - y7)) (w64 (y10 + 1))) = y1)) else none) else
    J3 k (L2 k n) y0 y1 y5 y6 y7 (IntKind.wrap .u32 ((IntKind.wrap .u32 ((IntKind.wrap .u32 (y8 * 16777619)) + (IntKind.wrap .u32 (UInt8.toNat p8 : Int)))) - (IntKind.wrap .u32 (y6 * (IntKind.wrap .u32 (UInt8.toNat p9 : Int)))))) (w64 (y10 + 1)) false))) else
    some (-1))
theorem L2_snd {k : Nat}  : ∀ {n : Nat} ⦃y0 : (List UInt8)⦄ ⦃y1 : (List UInt8)⦄ ⦃y5 : Int⦄ ⦃y6 : Int⦄ ⦃y7 : Int⦄ ⦃y8 : Int⦄ ⦃y10 : Int⦄ ⦃S : HS⦄ ⦃p : Int⦄ ⦃g2 g3 g4 g9 g11 g12 g13 g14 g15 g16 g17 g18 g19 g20 g21 g22 g23 g24 g25 g26 g27 g28 g29 g30 g31 g32 g33 g34 g35 g36 g37 g38 g39 g40 g41 g42 g43 g44 g45 g46 g47 g48 g49 g50 g51 g52 g53 g54 g55 g56 g57 g58 g59 g60 g61 g62 g63 g64 g65 g66 g67 g68 g69 g70 g71 g72 g73 g74 g75 g76 g77 g78 g79 g80 : HV⦄, L2 k n y0 y1 y5 y6 y7 y8 y10 = some p → HRun Tryd.prog base W0 β0 76 none [.inLoop c36, .inBlock 2, .code c58] ⟨[(.str y0), (.str y1), g2, g3, g4, (.int .u32 y5), (.int .u32 y6), (.int .i64 y7), (.int .u32 y8), g9, (.int .i64 y10), g11, g12, g13, g14, g15, g16, g17, g18, g19, g20, g21, g22, g23, g24, g25, g26, g27, g28, g29, g30, g31, g32, g33, g34, g35, g36, g37, g38, g39, g40, g41, g42, g43, g44, g45, g46, g47, g48, g49, g50, g51, g52, g53, g54, g55, g56, g57, g58, g59, g60, g61, g62, g63, g64, g65, g66, g67, g68, g69, g70, g71, g72, g73, g74, g75, g76, g77, g78, g79, g80], []⟩ S (fun v S1 => v = (.int .i64 p) ∧ S1 = S) := by
  intro n
  induction n with
  | zero => intro _ _ _ _ _ _ _ _ _ _ _ _ _ _ _ _ _ _ _ _ _ _ _ _ _ _ _ _ _ _ _ _ _ _ _ _ _ _ _ _ _ _ _ _ _ _ _ _ _ _ _ _ _ _ _ _ _ _ _ _ _ _ _ _ _ _ _ _ _ _ _ _ _ _ _ _ _ _ _ _ _ _ _ h; cases h
  | succ n ih =>
    intro y0 y1 y5 y6 y7 y8 y10 S p g2 g3 g4 g9 g11 g12 g13 g14 g15 g16 g17 g18 g19 g20 g21 g22 g23 g24 g25 g26 g27 g28 g29 g30 g31 g32 g33 g34 g35 g36 g37 g38 g39 g40 g41 g42 g43 g44 g45 g46 g47 g48 g49 g50 g51 g52 g53 g54 g55 g56 g57 g58 g59 g60 g61 g62 g63 g64 g65 g66 g67 g68 g69 g70 g71 g72 g73 g74 g75 g76 g77 g78 g79 g80 h
    simp only [L2] at h
    refine hr_inLoop ?_
    refine q_seq rfl ?_
    refine q_seq rfl ?_
    refine q_region rfl rfl ?_
    refine qS 41 rfl (ok_move · (.tmp rfl)) ?_
    refine qS 42 rfl (ok_move · (.tmp rfl)) ?_
    refine qS 43 rfl (ok_len_str · rfl tu9 (.tmp rfl)) ?_
    refine qS 44 rfl (ok_ibin · (.tmp rfl) (.tmp rfl) rfl) ?_
    refine hr_region_end ?_
    try dsimp only [w0, w1, w2, w3]
    rcases ifc h with ⟨hc7, h⟩ | ⟨hc7, h⟩
    · refine q_cond_t rfl (.tmp rfl) (decide_eq_true hc7) ?_
      refine q_skipc rfl ?_
      refine q_block rfl ?_
      refine q_seq rfl ?_
      refine q_region rfl rfl ?_
      refine qS 45 rfl (ok_move · (.tmp rfl)) ?_
      refine qS 46 rfl (ok_ibin · (.tmp rfl) (.int _ _) rfl) ?_
      refine qS 8 rfl (ok_assign · (.tmp rfl)) ?_
      refine hr_region_end ?_
      try dsimp only [w0, w1, w2, w3]
      refine q_seq rfl ?_
      refine q_region rfl rfl ?_
      refine qS 47 rfl (ok_move · (.tmp rfl)) ?_
      refine qS 48 rfl (ok_move · (.tmp rfl)) ?_
      refine qS 49 rfl (ok_move · (.tmp rfl)) ?_
      obtain ⟨p8, hp8, h⟩ := bindo h
      refine qS 50 rfl (ok_index_s · tu9 (.tmp rfl) (.tmp rfl) hp8) ?_
      try dsimp only [w0, w1, w2, w3]
      refine qS 51 rfl (ok_conv_int · tu5 tu72 (.tmp rfl)) ?_
      refine qS 52 rfl (ok_ibin · (.tmp rfl) (.tmp rfl) rfl) ?_
      refine qS 8 rfl (ok_assign · (.tmp rfl)) ?_
      refine hr_region_end ?_
      try dsimp only [w0, w1, w2, w3]
      refine q_seq rfl ?_
      refine q_region rfl rfl ?_
      refine qS 53 rfl (ok_move · (.tmp rfl)) ?_
      refine qS 54 rfl (ok_move · (.tmp rfl)) ?_
      refine qS 55 rfl (ok_move · (.tmp rfl)) ?_
      refine qS 56 rfl (ok_move · (.tmp rfl)) ?_
      try dsimp only [w0, w1, w2, w3]
      refine qS 57 rfl (ok_move · (.tmp rfl)) ?_
      refine qS 58 rfl (ok_ibin · (.tmp rfl) (.tmp rfl) rfl) ?_
      obtain ⟨p9, hp9, h⟩ := bindo h
      refine qS 59 rfl (ok_index_s · tu9 (.tmp rfl) (.tmp rfl) hp9) ?_
      refine qS 60 rfl (ok_conv_int · tu5 tu72 (.tmp rfl)) ?_
      try dsimp only [w0, w1, w2, w3]
      refine qS 61 rfl (ok_ibin · (.tmp rfl) (.tmp rfl) rfl) ?_
      refine qS 62 rfl (ok_ibin · (.tmp rfl) (.tmp rfl) rfl) ?_
      refine qS 8 rfl (ok_assign · (.tmp rfl)) ?_
      refine hr_region_end ?_
      try dsimp only [w0, w1, w2, w3]
      refine q_seq rfl ?_
      refine q_region rfl rfl ?_
      refine qS 63 rfl (ok_move · (.tmp rfl)) ?_
      refine qS 64 rfl (ok_ibin · (.tmp rfl) (.int _ _) rfl) ?_
      refine qS 10 rfl (ok_assign · (.tmp rfl)) ?_
      refine hr_region_end ?_
      try dsimp only [w0, w1, w2, w3]
      refine q_seq rfl ?_
      refine q_region rfl rfl ?_
      refine qS 65 rfl (ok_move · (.tmp rfl)) ?_
      refine qS 66 rfl (ok_move · (.tmp rfl)) ?_
      refine qS 67 rfl (ok_ibin · (.tmp rfl) (.tmp rfl) rfl) ?_
      refine qS 68 rfl (ok_move · (.tmp rfl)) ?_
      try dsimp only [w0, w1, w2, w3]
      rcases ifc h with ⟨hc10, h⟩ | ⟨hc10, h⟩
      · refine qG 68 69 rfl (decide_eq_true hc10) (ok_move · (.tmp rfl)) ?_
        refine qG 68 70 rfl (decide_eq_true hc10) (ok_move · (.tmp rfl)) ?_
        refine qG 68 71 rfl (decide_eq_true hc10) (ok_move · (.tmp rfl)) ?_
        refine qG 68 72 rfl (decide_eq_true hc10) (ok_ibin · (.tmp rfl) (.tmp rfl) rfl) ?_
        try dsimp only [w0, w1, w2, w3]
        refine qG 68 73 rfl (decide_eq_true hc10) (ok_move · (.tmp rfl)) ?_
        obtain ⟨hg11, h⟩ := gd h
        refine qG 68 74 rfl (decide_eq_true hc10) (ok_slice_str (kl := .i64) (kh := .i64) (l := (w64 ((w64 (y10 + 1)) - y7))) (h := (w64 (y10 + 1))) · tu9 (.tmp rfl) (.inr ⟨_, rfl, (.tmp rfl)⟩) (.inr ⟨_, rfl, (.tmp rfl)⟩) hg11.1 hg11.2.1 hg11.2.2) ?_
        refine qG 68 75 rfl (decide_eq_true hc10) (ok_move · (.tmp rfl)) ?_
        refine qG 68 76 rfl (decide_eq_true hc10) (ok_sbin · (.tmp rfl) (.tmp rfl) rfl) ?_
        try dsimp only [w0, w1, w2, w3]
        refine qS 77 rfl (ok_pick_tt · (.tmp rfl) (decide_eq_true hc10) (.tmp rfl)) ?_
        refine hr_region_end ?_
        try dsimp only [w0, w1, w2, w3]
        try dsimp only [w0, w1, w2, w3]
        exact J3_snd ih h
      · refine q_skip (dst := some 69) (t := 68) rfl rfl rfl (decide_eq_false hc10) ?_
        refine q_skip (dst := some 70) (t := 68) rfl rfl rfl (decide_eq_false hc10) ?_
        refine q_skip (dst := some 71) (t := 68) rfl rfl rfl (decide_eq_false hc10) ?_
        refine q_skip (dst := some 72) (t := 68) rfl rfl rfl (decide_eq_false hc10) ?_
        try dsimp only [w0, w1, w2, w3]
        refine q_skip (dst := some 73) (t := 68) rfl rfl rfl (decide_eq_false hc10) ?_
        refine q_skip (dst := some 74) (t := 68) rfl rfl rfl (decide_eq_false hc10) ?_
        refine q_skip (dst := some 75) (t := 68) rfl rfl rfl (decide_eq_false hc10) ?_
        refine q_skip (dst := some 76) (t := 68) rfl rfl rfl (decide_eq_false hc10) ?_
        try dsimp only [w0, w1, w2, w3]
        refine qS 77 rfl (ok_pick_ff · (.tmp rfl) (decide_eq_false hc10) (.bool _)) ?_
        refine hr_region_end ?_
        try dsimp only [w0, w1, w2, w3]
        try dsimp only [w0, w1, w2, w3]
        exact J3_snd ih h
    · refine q_cond_f rfl (.tmp rfl) (decide_eq_false hc7) ?_
      refine q_exit rfl rfl ?_
      refine q_seq rfl ?_
      refine q_region rfl rfl ?_
      refine qS 4 rfl (ok_assign · (.int _ _)) ?_
      refine hr_region_end ?_
      try dsimp only [w0, w1, w2, w3]
      cases h
      exact q_ret rfl at_.at_ rfl (res1 rfl rfl) ⟨rfl, rfl⟩
def J1 (k : Nat) (y0 : (List UInt8)) (y1 : (List UInt8)) (y5 : Int) (y6 : Int) (y7 : Int) (y8 : Int) (y39 : Bool) : Option (Int) :=
  (if y39 = true then
  some 0 else
  L2 k k y0 y1 y5 y6 y7 y8 y7)
theorem J1_snd {k : Nat}  {y0 : (List UInt8)} {y1 : (List UInt8)} {y5 : Int} {y6 : Int} {y7 : Int} {y8 : Int} {y39 : Bool} {S : HS} {p : Int} {g2 g3 g4 g9 g10 g11 g12 g13 g14 g15 g16 g17 g18 g19 g20 g21 g22 g23 g24 g25 g26 g27 g28 g29 g30 g31 g32 g33 g34 g35 g36 g37 g38 g40 g41 g42 g43 g44 g45 g46 g47 g48 g49 g50 g51 g52 g53 g54 g55 g56 g57 g58 g59 g60 g61 g62 g63 g64 g65 g66 g67 g68 g69 g70 g71 g72 g73 g74 g75 g76 g77 g78 g79 g80 : HV} (h : J1 k y0 y1 y5 y6 y7 y8 y39 = some p) : HRun Tryd.prog base W0 β0 76 none [.code c26, .code c31] ⟨[(.str y0), (.str y1), g2, g3, g4, (.int .u32 y5), (.int .u32 y6), (.int .i64 y7), (.int .u32 y8), g9, g10, g11, g12, g13, g14, g15, g16, g17, g18, g19, g20, g21, g22, g23, g24, g25, g26, g27, g28, g29, g30, g31, g32, g33, g34, g35, g36, g37, g38, (.bool y39), g40, g41, g42, g43, g44, g45, g46, g47, g48, g49, g50, g51, g52, g53, g54, g55, g56, g57, g58, g59, g60, g61, g62, g63, g64, g65, g66, g67, g68, g69, g70, g71, g72, g73, g74, g75, g76, g77, g78, g79, g80], []⟩ S (fun v S1 => v = (.int .i64 p) ∧ S1 = S) := by
  unfold J1 at h
  rcases ifc h with ⟨hc6, h⟩ | ⟨hc6, h⟩
  · refine q_cond_t rfl (.tmp rfl) hc6 ?_
    refine q_seq rfl ?_
    refine q_region rfl rfl ?_
    refine qS 4 rfl (ok_assign · (.int _ _)) ?_
    refine hr_region_end ?_
    try dsimp only [w0, w1, w2, w3]
    cases h
    exact q_ret rfl at_.at_ rfl (res1 rfl rfl) ⟨rfl, rfl⟩
  · refine q_cond_f rfl (.tmp rfl) (bfalse hc6) ?_
    refine q_skipc rfl ?_
    refine q_seq rfl ?_
    refine q_seq rfl ?_
    refine q_region rfl rfl ?_
    refine qS 40 rfl (ok_move · (.tmp rfl)) ?_
    refine qS 10 rfl (ok_assign · (.tmp rfl)) ?_
    refine hr_region_end ?_
    try dsimp only [w0, w1, w2, w3]
    refine q_block rfl ?_
    refine q_loop rfl ?_
    try dsimp only [w0, w1, w2, w3]
    exact L2_snd  h
def L0 (k : Nat) : Nat → (List UInt8) → (List UInt8) → Int → Int → Int → Int → Int → Option (Int)
  | 0, _, _, _, _, _, _, _ => none
  | n + 1, y0, y1, y5, y6, y7, y8, y9 =>
    (if y9 < y7 then
    (Option.bind (sat y0 y9) fun p3 =>
    (L0 k n) y0 y1 y5 y6 y7 (IntKind.wrap .u32 ((IntKind.wrap .u32 (y8 * 16777619)) + (IntKind.wrap .u32 (UInt8.toNat p3 : Int)))) (w64 (y9 + 1))) else
    (if y8 = y5 then
    (if 0 ≤ (0 : Int) ∧ (0 : Int) ≤ y7 ∧ (y7 : Int) ≤ (List.length y0 : Int) then
    J1 k y0 y1 y5 y6 y7 y8 (decide ((ssub y0 0 y7) = y1)) else none) else
    J1 k y0 y1 y5 y6 y7 y8 false))
theorem L0_snd {k : Nat}  : ∀ {n : Nat} ⦃y0 : (List UInt8)⦄ ⦃y1 : (List UInt8)⦄ ⦃y5 : Int⦄ ⦃y6 : Int⦄ ⦃y7 : Int⦄ ⦃y8 : Int⦄ ⦃y9 : Int⦄ ⦃S : HS⦄ ⦃p : Int⦄ ⦃g2 g3 g4 g10 g11 g12 g13 g14 g15 g16 g17 g18 g19 g20 g21 g22 g23 g24 g25 g26 g27 g28 g29 g30 g31 g32 g33 g34 g35 g36 g37 g38 g39 g40 g41 g42 g43 g44 g45 g46 g47 g48 g49 g50 g51 g52 g53 g54 g55 g56 g57 g58 g59 g60 g61 g62 g63 g64 g65 g66 g67 g68 g69 g70 g71 g72 g73 g74 g75 g76 g77 g78 g79 g80 : HV⦄, L0 k n y0 y1 y5 y6 y7 y8 y9 = some p → HRun Tryd.prog base W0 β0 76 none [.inLoop c13, .inBlock 0, .code c23] ⟨[(.str y0), (.str y1), g2, g3, g4, (.int .u32 y5), (.int .u32 y6), (.int .i64 y7), (.int .u32 y8), (.int .i64 y9), g10, g11, g12, g13, g14, g15, g16, g17, g18, g19, g20, g21, g22, g23, g24, g25, g26, g27, g28, g29, g30, g31, g32, g33, g34, g35, g36, g37, g38, g39, g40, g41, g42, g43, g44, g45, g46, g47, g48, g49, g50, g51, g52, g53, g54, g55, g56, g57, g58, g59, g60, g61, g62, g63, g64, g65, g66, g67, g68, g69, g70, g71, g72, g73, g74, g75, g76, g77, g78, g79, g80], []⟩ S (fun v S1 => v = (.int .i64 p) ∧ S1 = S) := by
  intro n
  induction n with
  | zero => intro _ _ _ _ _ _ _ _ _ _ _ _ _ _ _ _ _ _ _ _ _ _ _ _ _ _ _ _ _ _ _ _ _ _ _ _ _ _ _ _ _ _ _ _ _ _ _ _ _ _ _ _ _ _ _ _ _ _ _ _ _ _ _ _ _ _ _ _ _ _ _ _ _ _ _ _ _ _ _ _ _ _ _ h; cases h
  | succ n ih =>
    intro y0 y1 y5 y6 y7 y8 y9 S p g2 g3 g4 g10 g11 g12 g13 g14 g15 g16 g17 g18 g19 g20 g21 g22 g23 g24 g25 g26 g27 g28 g29 g30 g31 g32 g33 g34 g35 g36 g37 g38 g39 g40 g41 g42 g43 g44 g45 g46 g47 g48 g49 g50 g51 g52 g53 g54 g55 g56 g57 g58 g59 g60 g61 g62 g63 g64 g65 g66 g67 g68 g69 g70 g71 g72 g73 g74 g75 g76 g77 g78 g79 g80 h
    simp only [L0] at h
    refine hr_inLoop ?_
    refine q_seq rfl ?_
    refine q_seq rfl ?_
    refine q_region rfl rfl ?_
    refine qS 18 rfl (ok_move · (.tmp rfl)) ?_
    refine qS 19 rfl (ok_move · (.tmp rfl)) ?_
    refine qS 20 rfl (ok_ibin · (.tmp rfl) (.tmp rfl) rfl) ?_
    refine hr_region_end ?_
    try dsimp only [w0, w1, w2, w3]
    rcases ifc h with ⟨hc2, h⟩ | ⟨hc2, h⟩
    · refine q_cond_t rfl (.tmp rfl) (decide_eq_true hc2) ?_
      refine q_skipc rfl ?_
      refine q_seq rfl ?_
      refine q_block rfl ?_
      refine q_region rfl rfl ?_
      refine qS 23 rfl (ok_move · (.tmp rfl)) ?_
      refine qS 24 rfl (ok_ibin · (.tmp rfl) (.int _ _) rfl) ?_
      refine qS 25 rfl (ok_move · (.tmp rfl)) ?_
      refine qS 26 rfl (ok_move · (.tmp rfl)) ?_
      try dsimp only [w0, w1, w2, w3]
      obtain ⟨p3, hp3, h⟩ := bindo h
      refine qS 27 rfl (ok_index_s · tu9 (.tmp rfl) (.tmp rfl) hp3) ?_
      refine qS 28 rfl (ok_conv_int · tu5 tu72 (.tmp rfl)) ?_
      refine qS 29 rfl (ok_ibin · (.tmp rfl) (.tmp rfl) rfl) ?_
      refine qS 8 rfl (ok_assign · (.tmp rfl)) ?_
      refine hr_region_end ?_
      try dsimp only [w0, w1, w2, w3]
      refine hr_inBlock ?_
      refine q_region rfl rfl ?_
      refine qS 21 rfl (ok_move · (.tmp rfl)) ?_
      refine qS 22 rfl (ok_ibin · (.tmp rfl) (.int _ _) rfl) ?_
      refine qS 9 rfl (ok_assign · (.tmp rfl)) ?_
      refine hr_region_end ?_
      try dsimp only [w0, w1, w2, w3]
      try dsimp only [w0, w1, w2, w3]
      exact ih h
    · refine q_cond_f rfl (.tmp rfl) (decide_eq_false hc2) ?_
      refine q_exit rfl rfl ?_
      refine q_seq rfl ?_
      refine q_seq rfl ?_
      refine q_region rfl rfl ?_
      refine qS 30 rfl (ok_move · (.tmp rfl)) ?_
      refine qS 31 rfl (ok_move · (.tmp rfl)) ?_
      refine qS 32 rfl (ok_ibin · (.tmp rfl) (.tmp rfl) rfl) ?_
      refine qS 33 rfl (ok_move · (.tmp rfl)) ?_
      try dsimp only [w0, w1, w2, w3]
      rcases ifc h with ⟨hc4, h⟩ | ⟨hc4, h⟩
      · refine qG 33 34 rfl (decide_eq_true hc4) (ok_move · (.tmp rfl)) ?_
        refine qG 33 35 rfl (decide_eq_true hc4) (ok_move · (.tmp rfl)) ?_
        obtain ⟨hg5, h⟩ := gd h
        refine qG 33 36 rfl (decide_eq_true hc4) (ok_slice_str (kl := .i64) (kh := .i64) (l := 0) (h := y7) · tu9 (.tmp rfl) (.inl ⟨rfl, rfl⟩) (.inr ⟨_, rfl, (.tmp rfl)⟩) hg5.1 hg5.2.1 hg5.2.2) ?_
        refine qG 33 37 rfl (decide_eq_true hc4) (ok_move · (.tmp rfl)) ?_
        try dsimp only [w0, w1, w2, w3]
        refine qG 33 38 rfl (decide_eq_true hc4) (ok_sbin · (.tmp rfl) (.tmp rfl) rfl) ?_
        refine qS 39 rfl (ok_pick_tt · (.tmp rfl) (decide_eq_true hc4) (.tmp rfl)) ?_
        refine hr_region_end ?_
        try dsimp only [w0, w1, w2, w3]
        try dsimp only [w0, w1, w2, w3]
        exact J1_snd  h
      · refine q_skip (dst := some 34) (t := 33) rfl rfl rfl (decide_eq_false hc4) ?_
        refine q_skip (dst := some 35) (t := 33) rfl rfl rfl (decide_eq_false hc4) ?_
        refine q_skip (dst := some 36) (t := 33) rfl rfl rfl (decide_eq_false hc4) ?_
        refine q_skip (dst := some 37) (t := 33) rfl rfl rfl (decide_eq_false hc4) ?_
        try dsimp only [w0, w1, w2, w3]
        refine q_skip (dst := some 38) (t := 33) rfl rfl rfl (decide_eq_false hc4) ?_
        refine qS 39 rfl (ok_pick_ff · (.tmp rfl) (decide_eq_false hc4) (.bool _)) ?_
        refine hr_region_end ?_
        try dsimp only [w0, w1, w2, w3]
        try dsimp only [w0, w1, w2, w3]
        exact J1_snd  h
end
end internal_bytealg_IndexRabinKarp_string
namespace internal_stringslite_Index
theorem at_ : FnAt Tryd.prog 64 Tryd.f64 := ⟨Tryd.func64, by kernel_rfl⟩
noncomputable def d0 := (Tryd.f64.body).getD .skip
noncomputable def r1 := kR (kA d0)
noncomputable def r3 := kR (kA (kB d0))
noncomputable def d5 := kA (kB (kB d0))
noncomputable def r7 := kR (kA (kA d5))
noncomputable def r10 := kR (kA (kA (kB (kA d5))))
noncomputable def d12 := kB (kB (kA d5))
noncomputable def r13 := kR (kA d12)
noncomputable def r16 := kR (kA (kA (kB d12)))
noncomputable def r19 := kR (kA (kB (kB d12)))
noncomputable def r22 := kR (kA (kA (kB (kB (kB d12)))))
noncomputable def r25 := kR (kA (kB (kB (kB (kB d12)))))
noncomputable def r28 := kR (kA (kA (kB (kB (kB (kB (kB d12)))))))
noncomputable def d31 := kB (kB (kB d0))
noncomputable def r32 := kR (kA d31)
noncomputable def r34 := kR (kA (kB d31))
noncomputable def r36 := kR (kA (kB (kB d31)))
noncomputable def d37 := kB (kB (kB d31))
noncomputable def r38 := kR (kA d37)
noncomputable def r40 := kR (kA (kB d37))
noncomputable def d42 := kA (kB (kB d37))
noncomputable def r46 := kR (kA (kA (kA (kA d42))))
noncomputable def d50 := kB (kA (kA d42))
noncomputable def r53 := kR (kA (kA (kA d50)))
noncomputable def d54 := kB (kA (kA d50))
noncomputable def r56 := kR (kA (kA d54))
noncomputable def r59 := kR (kA (kA (kB (kA d54))))
noncomputable def r62 := kR (kA (kA (kB (kA (kB (kA d54))))))
noncomputable def r65 := kR (kB (kB (kA d54)))
noncomputable def r69 := kR (kA (kA (kB (kA d50))))
noncomputable def r72 := kR (kA (kA (kB (kA (kB (kA d50))))))
noncomputable def d75 := kB (kB (kA d50))
noncomputable def r76 := kR (kA d75)
noncomputable def r78 := kR (kA (kB d75))
noncomputable def r80 := kR (kA (kB (kB d75)))
noncomputable def d81 := kB (kB (kB d75))
noncomputable def r83 := kR (kA (kA d81))
noncomputable def r86 := kR (kA (kA (kB (kA d81))))
noncomputable def r89 := kR (kA (kA (kB (kA (kB (kA d81))))))
noncomputable def r93 := kR (kA (kB (kB (kA d81))))
noncomputable def r96 := kR (kA (kB d81))
noncomputable def d98 := kA (kB (kB d81))
noncomputable def r99 := kR (kA d98)
noncomputable def r102 := kR (kA (kA (kB d98)))
noncomputable def r105 := kR (kA (kA (kB (kA (kB d98)))))
noncomputable def r109 := kR (kA (kB (kB d98)))
noncomputable def r113 := kR (kA (kB (kB (kB d37))))
noncomputable def c31 : Code := .seq (.region 10 r32 false) (.seq (.region 11 r34 false) (.seq (.region 12 r36 false) (.seq (.region 13 r38 false) (.seq (.region 14 r40 false) (.seq (.block 1 (.loop (.seq (.seq (.region 15 r46 false) (.cond (.tmp 59) .skip (.exit 1))) (.block 2 (.seq (.seq (.region 16 r53 false) (.cond (.tmp 64) (.seq (.region 17 r56 false) (.seq (.seq (.region 18 r59 false) (.cond (.tmp 73) (.seq (.region 19 r62 false) .ret) .skip)) (.region 20 r65 false))) .skip)) (.seq (.seq (.region 21 r69 false) (.cond (.tmp 93) (.seq (.region 22 r72 false) .ret) .skip)) (.seq (.region 23 r76 false) (.seq (.region 24 r78 false) (.seq (.region 25 r80 false) (.cond (.tmp 107) (.seq (.region 26 r83 false) (.seq (.seq (.region 27 r86 false) (.cond (.tmp 114) (.seq (.region 28 r89 false) .ret) .skip)) (.seq (.region 29 r93 false) .ret))) (.seq (.region 30 r96 false) (.cond (.tmp 132) (.seq (.region 31 r99 false) (.seq (.seq (.region 32 r102 false) (.cond (.tmp 139) (.seq (.region 33 r105 false) .ret) .skip)) (.seq (.region 34 r109 false) .ret))) .skip)))))))))))) (.seq (.region 35 r113 false) .ret))))))
noncomputable def c8 : Code := .cond (.tmp 16) (.seq (.region 3 r10 false) .ret) (.seq (.region 4 r13 false) (.cond (.tmp 24) (.seq (.region 5 r16 false) .ret) (.seq (.region 6 r19 false) (.cond (.tmp 31) (.seq (.region 7 r22 false) .ret) (.seq (.region 8 r25 false) (.cond (.tmp 36) (.seq (.region 9 r28 false) .ret) .skip))))))
noncomputable def c0 : Code := .seq (.region 0 r1 false) (.seq (.region 1 r3 false) (.seq (.block 0 (.seq (.region 2 r7 false) c8)) c31))
theorem body : Tryd.f64.body = some c0 := by kernel_rfl
section
variable {base : Nat} {W0 : World} {β0 : Bt}
def J0 (k : Nat) (y0 : (List UInt8)) (y1 : (List UInt8)) (y5 : Int) (y23 : Bool) (S : HS) : Option ((Int) × HS) :=
  (if y23 = true then
  some (0, S) else
  (if y5 = 1 then
  (Option.bind (sat y1 0) fun p4 =>
  (Option.bind (internal_stringslite_IndexByte.f y0 (UInt8.toNat p4 : Int)) fun p5 =>
  some (p5, S))) else
  (if y5 ≥ (List.length y0 : Int) then
  some ((-1), S) else
  none)))
theorem J0_snd {k : Nat}  {y0 : (List UInt8)} {y1 : (List UInt8)} {y5 : Int} {y23 : Bool} {S : HS} {p : (Int) × HS} {g2 g3 g4 g6 g7 g8 g9 g10 g11 g12 g13 g14 g15 g16 g17 g18 g19 g20 g21 g22 g24 g25 g26 g27 g28 g29 g30 g31 g32 g33 g34 g35 g36 g37 g38 g39 g40 g41 g42 g43 g44 g45 g46 g47 g48 g49 g50 g51 g52 g53 g54 g55 g56 g57 g58 g59 g60 g61 g62 g63 g64 g65 g66 g67 g68 g69 g70 g71 g72 g73 g74 g75 g76 g77 g78 g79 g80 g81 g82 g83 g84 g85 g86 g87 g88 g89 g90 g91 g92 g93 g94 g95 g96 g97 g98 g99 g100 g101 g102 g103 g104 g105 g106 g107 g108 g109 g110 g111 g112 g113 g114 g115 g116 g117 g118 g119 g120 g121 g122 g123 g124 g125 g126 g127 g128 g129 g130 g131 g132 g133 g134 g135 g136 g137 g138 g139 g140 g141 g142 : HV} (h : J0 k y0 y1 y5 y23 S = some p) : HRun Tryd.prog base W0 β0 64 none [.inRegion r7 [7], .code c8, .inBlock 0, .code c31] ⟨[(.str y0), (.str y1), g2, g3, g4, (.int .i64 y5), g6, g7, g8, g9, g10, g11, g12, g13, g14, g15, g16, g17, g18, g19, g20, g21, g22, (.bool y23), g24, g25, g26, g27, g28, g29, g30, g31, g32, g33, g34, g35, g36, g37, g38, g39, g40, g41, g42, g43, g44, g45, g46, g47, g48, g49, g50, g51, g52, g53, g54, g55, g56, g57, g58, g59, g60, g61, g62, g63, g64, g65, g66, g67, g68, g69, g70, g71, g72, g73, g74, g75, g76, g77, g78, g79, g80, g81, g82, g83, g84, g85, g86, g87, g88, g89, g90, g91, g92, g93, g94, g95, g96, g97, g98, g99, g100, g101, g102, g103, g104, g105, g106, g107, g108, g109, g110, g111, g112, g113, g114, g115, g116, g117, g118, g119, g120, g121, g122, g123, g124, g125, g126, g127, g128, g129, g130, g131, g132, g133, g134, g135, g136, g137, g138, g139, g140, g141, g142], []⟩ S (fun v S1 => v = (.int .i64 p.1) ∧ S1 = p.2) := by
  unfold J0 at h
  refine qS 16 rfl (ok_assign · (.tmp rfl)) ?_
  refine hr_region_end ?_
  try dsimp only [w0, w1, w2, w3]
  rcases ifc h with ⟨hc2, h⟩ | ⟨hc2, h⟩
  · refine q_cond_t rfl (.tmp rfl) hc2 ?_
    refine q_seq rfl ?_
    refine q_region rfl rfl ?_
    refine qS 4 rfl (ok_assign · (.int _ _)) ?_
    refine hr_region_end ?_
    try dsimp only [w0, w1, w2, w3]
    cases h
    exact q_ret rfl at_.at_ rfl (res1 rfl rfl) ⟨rfl, rfl⟩
  · refine q_cond_f rfl (.tmp rfl) (bfalse hc2) ?_
    refine q_seq rfl ?_
    refine q_region rfl rfl ?_
    refine qS 25 rfl (ok_move · (.tmp rfl)) ?_
    refine qS 26 rfl (ok_ibin · (.tmp rfl) (.int _ _) rfl) ?_
    refine qS 24 rfl (ok_assign · (.tmp rfl)) ?_
    refine hr_region_end ?_
    try dsimp only [w0, w1, w2, w3]
    rcases ifc h with ⟨hc3, h⟩ | ⟨hc3, h⟩
    · refine q_cond_t rfl (.tmp rfl) (decide_eq_true hc3) ?_
      refine q_seq rfl ?_
      refine q_region rfl rfl ?_
      refine qS 27 rfl (ok_move · (.tmp rfl)) ?_
      refine qS 28 rfl (ok_move · (.tmp rfl)) ?_
      obtain ⟨p4, hp4, h⟩ := bindo h
      refine qS 29 rfl (ok_index_s · tu9 (.tmp rfl) (.int _ _) hp4) ?_
      obtain ⟨p5, hp5, h⟩ := bindo h
      refine q_call (dst := some 30) rfl (.func _) (.cons (.tmp rfl) (.cons (.tmp rfl) Evs.nil)) (HInv.static internal_stringslite_IndexByte.at_ internal_stringslite_IndexByte.body (internal_stringslite_IndexByte.snd  hp5)) ?_
      rintro _ _ ⟨rfl, rfl⟩
      try dsimp only [w0, w1, w2, w3]
      refine qS 4 rfl (ok_assign · (.tmp rfl)) ?_
      refine hr_region_end ?_
      try dsimp only [w0, w1, w2, w3]
      cases h
      exact q_ret rfl at_.at_ rfl (res1 rfl rfl) ⟨rfl, rfl⟩
    · refine q_cond_f rfl (.tmp rfl) (decide_eq_false hc3) ?_
      refine q_seq rfl ?_
      refine q_region rfl rfl ?_
      refine qS 32 rfl (ok_move · (.tmp rfl)) ?_
      refine qS 33 rfl (ok_move · (.tmp rfl)) ?_
      refine qS 34 rfl (ok_len_str · rfl tu9 (.tmp rfl)) ?_
      refine qS 35 rfl (ok_ibin · (.tmp rfl) (.tmp rfl) rfl) ?_
      try dsimp only [w0, w1, w2, w3]
      refine qS 31 rfl (ok_assign · (.tmp rfl)) ?_
      refine hr_region_end ?_
      try dsimp only [w0, w1, w2, w3]
      rcases ifc h with ⟨hc6, h⟩ | ⟨hc6, h⟩
      · refine q_cond_t rfl (.tmp rfl) (decide_eq_true hc6) ?_
        refine q_seq rfl ?_
        refine q_region rfl rfl ?_
        refine qS 4 rfl (ok_assign · (.int _ _)) ?_
        refine hr_region_end ?_
        try dsimp only [w0, w1, w2, w3]
        cases h
        exact q_ret rfl at_.at_ rfl (res1 rfl rfl) ⟨rfl, rfl⟩
      · refine q_cond_f rfl (.tmp rfl) (decide_eq_false hc6) ?_
        refine q_seq rfl ?_
        refine q_region rfl rfl ?_
        refine qS 37 rfl (ok_move · (.tmp rfl)) ?_
        cases h
def f (k : Nat) (x0 : (List UInt8)) (x1 : (List UInt8)) (S : HS) : Option ((Int) × HS) :=
  (if (List.length x1 : Int) = 0 then
  J0 k x0 x1 (List.length x1 : Int) true S else
  J0 k x0 x1 (List.length x1 : Int) (decide (x1 = x0)) S)
theorem snd {k : Nat} {x0 : (List UInt8)} {x1 : (List UInt8)} {S : HS}  {p : (Int) × HS} (h : f k x0 x1 S = some p) : HCall Tryd.prog base W0 β0 64 [(.str x0), (.str x1)] S (fun v S1 => v = (.int .i64 p.1) ∧ S1 = p.2) := by
  unfold f at h
  refine HCall.of_run at_.at_ body ?_
  show HRun Tryd.prog base W0 β0 64 none [.code c0] ⟨[(.str x0), (.str x1), τ, τ, τ, τ, τ, τ, τ, τ, τ, τ, τ, τ, τ, τ, τ, τ, τ, τ, τ, τ, τ, τ, τ, τ, τ, τ, τ, τ, τ, τ, τ, τ, τ, τ, τ, τ, τ, τ, τ, τ, τ, τ, τ, τ, τ, τ, τ, τ, τ, τ, τ, τ, τ, τ, τ, τ, τ, τ, τ, τ, τ, τ, τ, τ, τ, τ, τ, τ, τ, τ, τ, τ, τ, τ, τ, τ, τ, τ, τ, τ, τ, τ, τ, τ, τ, τ, τ, τ, τ, τ, τ, τ, τ, τ, τ, τ, τ, τ, τ, τ, τ, τ, τ, τ, τ, τ, τ, τ, τ, τ, τ, τ, τ, τ, τ, τ, τ, τ, τ, τ, τ, τ, τ, τ, τ, τ, τ, τ, τ, τ, τ, τ, τ, τ, τ, τ, τ, τ, τ, τ, τ], []⟩ S _
  refine q_seq rfl ?_
  refine q_region rfl rfl ?_
  refine qS 4 rfl (ok_assign · (.int _ _)) ?_
  refine hr_region_end ?_
  try dsimp only [w0, w1, w2, w3]
  refine q_seq rfl ?_
  refine q_region rfl rfl ?_
  refine qS 14 rfl (ok_move · (.tmp rfl)) ?_
  refine qS 15 rfl (ok_len_str · rfl tu9 (.tmp rfl)) ?_
  refine qS 5 rfl (ok_assign · (.tmp rfl)) ?_
  refine hr_region_end ?_
  try dsimp only [w0, w1, w2, w3]
  refine q_seq rfl ?_
  refine q_block rfl ?_
  refine q_seq rfl ?_
  refine q_region rfl rfl ?_
  refine qS 17 rfl (ok_move · (.tmp rfl)) ?_
  refine qS 18 rfl (ok_ibin · (.tmp rfl) (.int _ _) rfl) ?_
  refine qS 19 rfl (ok_move · (.tmp rfl)) ?_
  rcases ifc h with ⟨hc1, h⟩ | ⟨hc1, h⟩
  · refine q_skip (dst := some 20) (t := 19) rfl rfl rfl (decide_eq_true hc1) ?_
    try dsimp only [w0, w1, w2, w3]
    refine q_skip (dst := some 21) (t := 19) rfl rfl rfl (decide_eq_true hc1) ?_
    refine q_skip (dst := some 22) (t := 19) rfl rfl rfl (decide_eq_true hc1) ?_
    refine qS 23 rfl (ok_pick_tt · (.tmp rfl) (decide_eq_true hc1) (.bool _)) ?_
    try dsimp only [w0, w1, w2, w3]
    exact J0_snd  h
  · refine qG 19 20 rfl (decide_eq_false hc1) (ok_move · (.tmp rfl)) ?_
    try dsimp only [w0, w1, w2, w3]
    refine qG 19 21 rfl (decide_eq_false hc1) (ok_move · (.tmp rfl)) ?_
    refine qG 19 22 rfl (decide_eq_false hc1) (ok_sbin · (.tmp rfl) (.tmp rfl) rfl) ?_
    refine qS 23 rfl (ok_pick_ff · (.tmp rfl) (decide_eq_false hc1) (.tmp rfl)) ?_
    try dsimp only [w0, w1, w2, w3]
    exact J0_snd  h
end
end internal_stringslite_Index
namespace internal_stringslite_Cut
theorem at_ : FnAt Tryd.prog 49 Tryd.f49 := ⟨Tryd.func49, by kernel_rfl⟩
noncomputable def d0 := (Tryd.f49.body).getD .skip
noncomputable def r1 := kR (kA d0)
noncomputable def r4 := kR (kA (kA (kB d0)))
noncomputable def r6 := kR (kA (kB (kA (kB d0))))
noncomputable def r9 := kR (kA (kA (kB (kB (kA (kB d0))))))
noncomputable def r13 := kR (kA (kB (kB d0)))
noncomputable def c0 : Code := .seq (.region 0 r1 false) (.seq (.seq (.region 1 r4 false) (.seq (.region 2 r6 false) (.cond (.tmp 12) (.seq (.region 3 r9 true) .ret) .skip))) (.seq (.region 4 r13 false) .ret))
theorem body : Tryd.f49.body = some c0 := by kernel_rfl
section
variable {base : Nat} {W0 : World} {β0 : Bt}
def f (k : Nat) (x0 : (List UInt8)) (x1 : (List UInt8)) (S : HS) : Option (((List UInt8) × (List UInt8) × Bool) × HS) :=
  (Option.bind (internal_stringslite_Index.f k x0 x1 S) fun p1 =>
  (if p1.1 ≥ 0 then
  (if 0 ≤ (0 : Int) ∧ (0 : Int) ≤ p1.1 ∧ (p1.1 : Int) ≤ (List.length x0 : Int) then
  (if 0 ≤ ((w64 (p1.1 + (List.length x1 : Int))) : Int) ∧ ((w64 (p1.1 + (List.length x1 : Int))) : Int) ≤ (List.length x0 : Int) ∧ ((List.length x0 : Int) : Int) ≤ (List.length x0 : Int) then
  some (((ssub x0 0 p1.1), (ssub x0 (w64 (p1.1 + (List.length x1 : Int))) (List.length x0 : Int)), true), p1.2) else none) else none) else
  some ((x0, ([] : List UInt8), false), p1.2)))
theorem snd {k : Nat} {x0 : (List UInt8)} {x1 : (List UInt8)} {S : HS}  {p : ((List UInt8) × (List UInt8) × Bool) × HS} (h : f k x0 x1 S = some p) : HCall Tryd.prog base W0 β0 49 [(.str x0), (.str x1)] S (fun v S1 => v = (.tup [(.str p.1.1), (.str p.1.2.1), (.bool p.1.2.2)]) ∧ S1 = p.2) := by
  unfold f at h
  refine HCall.of_run at_.at_ body ?_
  show HRun Tryd.prog base W0 β0 49 none [.code c0] ⟨[(.str x0), (.str x1), τ, τ, τ, τ, τ, τ, τ, τ, τ, τ, τ, τ, τ, τ, τ, τ, τ, τ, τ, τ, τ], []⟩ S _
  refine q_seq rfl ?_
  refine q_region rfl rfl ?_
  refine qS 4 rfl (ok_assign · (.str _)) ?_
  refine qS 5 rfl (ok_assign · (.str _)) ?_
  refine qS 6 rfl (ok_assign · (.bool _)) ?_
  refine hr_region_end ?_
  try dsimp only [w0, w1, w2, w3]
  refine q_seq rfl ?_
  refine q_seq rfl ?_
  refine q_region rfl rfl ?_
  refine qS 8 rfl (ok_move · (.tmp rfl)) ?_
  refine qS 9 rfl (ok_move · (.tmp rfl)) ?_
  obtain ⟨p1, hp1, h⟩ := bindo h
  refine q_call (dst := some 10) rfl (.func _) (.cons (.tmp rfl) (.cons (.tmp rfl) Evs.nil)) (HInv.static internal_stringslite_Index.at_ internal_stringslite_Index.body (internal_stringslite_Index.snd  hp1)) ?_
  rintro _ _ ⟨rfl, rfl⟩
  refine qS 7 rfl (ok_assign · (.tmp rfl)) ?_
  refine hr_region_end ?_
  try dsimp only [w0, w1, w2, w3]
  refine q_seq rfl ?_
  refine q_region rfl rfl ?_
  refine qS 11 rfl (ok_move · (.tmp rfl)) ?_
  refine qS 12 rfl (ok_ibin · (.tmp rfl) (.int _ _) rfl) ?_
  refine hr_region_end ?_
  try dsimp only [w0, w1, w2, w3]
  rcases ifc h with ⟨hc2, h⟩ | ⟨hc2, h⟩
  · refine q_cond_t rfl (.tmp rfl) (decide_eq_true hc2) ?_
    refine q_seq rfl ?_
    refine x_start (cls := [0, 0, 0, 0, 0, 0, 0, 0, 0, 0, 0, 0]) (rk := [0, 1, 2, 3, 4, 5, 6, 7, 8, 9, 10, 11]) rfl (by kernel_rfl) ?_
    refine yf 13 [0] rfl (ok_move · (.tmp rfl)) ?_
    refine yf 14 [7] rfl (ok_move · (.tmp rfl)) ?_
    obtain ⟨hg3, h⟩ := gd h
    refine yf 15 [13, 14] rfl (ok_slice_str (kl := .i64) (kh := .i64) (l := 0) (h := p1.1) · tu9 (.tmp rfl) (.inl ⟨rfl, rfl⟩) (.inr ⟨_, rfl, (.tmp rfl)⟩) hg3.1 hg3.2.1 hg3.2.2) ?_
    refine yf 16 [0] rfl (ok_move · (.tmp rfl)) ?_
    try dsimp only [w0, w1, w2, w3]
    refine yf 17 [7] rfl (ok_move · (.tmp rfl)) ?_
    refine yf 18 [1] rfl (ok_move · (.tmp rfl)) ?_
    refine yf 19 [18] rfl (ok_len_str · rfl tu9 (.tmp rfl)) ?_
    refine yf 20 [17, 19] rfl (ok_ibin · (.tmp rfl) (.tmp rfl) rfl) ?_
    try dsimp only [w0, w1, w2, w3]
    obtain ⟨hg4, h⟩ := gd h
    refine yf 21 [16, 20] rfl (ok_slice_str (kl := .i64) (kh := .i64) (l := (w64 (p1.1 + (List.length x1 : Int)))) (h := (List.length x0 : Int)) · tu9 (.tmp rfl) (.inr ⟨_, rfl, (.tmp rfl)⟩) (.inl ⟨rfl, rfl⟩) hg4.1 hg4.2.1 hg4.2.2) ?_
    refine yf 4 [15] rfl (ok_assign · (.tmp rfl)) ?_
    refine yf 5 [21] rfl (ok_assign · (.tmp rfl)) ?_
    refine yf 6 [] rfl (ok_assign · (.bool _)) ?_
    refine x_rest rfl ?_
    refine hr_region_end ?_
    try dsimp only [w0, w1, w2, w3]
    cases h
    exact q_ret rfl at_.at_ rfl (res3 rfl rfl rfl rfl) ⟨rfl, rfl⟩
  · refine q_cond_f rfl (.tmp rfl) (decide_eq_false hc2) ?_
    refine q_skipc rfl ?_
    refine q_seq rfl ?_
    refine q_region rfl rfl ?_
    refine qS 22 rfl (ok_move · (.tmp rfl)) ?_
    refine qS 4 rfl (ok_assign · (.tmp rfl)) ?_
    refine qS 5 rfl (ok_assign · (.str _)) ?_
    refine qS 6 rfl (ok_assign · (.bool _)) ?_
    refine hr_region_end ?_
    try dsimp only [w0, w1, w2, w3]
    cases h
    exact q_ret rfl at_.at_ rfl (res3 rfl rfl rfl rfl) ⟨rfl, rfl⟩
end
end internal_stringslite_Cut
namespace strings_Cut
theorem at_ : FnAt Tryd.prog 31 Tryd.f31 := ⟨Tryd.func31, by kernel_rfl⟩
noncomputable def d0 := (Tryd.f31.body).getD .skip
noncomputable def r1 := kR (kA d0)
noncomputable def r3 := kR (kA (kB d0))
noncomputable def c0 : Code := .seq (.region 0 r1 false) (.seq (.region 1 r3 false) .ret)
theorem body : Tryd.f31.body = some c0 := by kernel_rfl
section
variable {base : Nat} {W0 : World} {β0 : Bt}
def f (k : Nat) (x0 : (List UInt8)) (x1 : (List UInt8)) (S : HS) : Option (((List UInt8) × (List UInt8) × Bool) × HS) :=
  (Option.bind (internal_stringslite_Cut.f k x0 x1 S) fun p1 =>
  some ((p1.1.1, p1.1.2.1, p1.1.2.2), p1.2))
theorem snd {k : Nat} {x0 : (List UInt8)} {x1 : (List UInt8)} {S : HS}  {p : ((List UInt8) × (List UInt8) × Bool) × HS} (h : f k x0 x1 S = some p) : HCall Tryd.prog base W0 β0 31 [(.str x0), (.str x1)] S (fun v S1 => v = (.tup [(.str p.1.1), (.str p.1.2.1), (.bool p.1.2.2)]) ∧ S1 = p.2) := by
  unfold f at h
  refine HCall.of_run at_.at_ body ?_
  show HRun Tryd.prog base W0 β0 31 none [.code c0] ⟨[(.str x0), (.str x1), τ, τ, τ, τ, τ, τ, τ, τ, τ, τ, τ], []⟩ S _
  refine q_seq rfl ?_
  refine q_region rfl rfl ?_
  refine qS 4 rfl (ok_assign · (.str _)) ?_
  refine qS 5 rfl (ok_assign · (.str _)) ?_
  refine qS 6 rfl (ok_assign · (.bool _)) ?_
  refine hr_region_end ?_
  try dsimp only [w0, w1, w2, w3]
  refine q_seq rfl ?_
  refine q_region rfl rfl ?_
  refine qS 7 rfl (ok_move · (.tmp rfl)) ?_
  refine qS 8 rfl (ok_move · (.tmp rfl)) ?_
  obtain ⟨p1, hp1, h⟩ := bindo h
  refine q_call (dst := some 9) rfl (.func _) (.cons (.tmp rfl) (.cons (.tmp rfl) Evs.nil)) (HInv.static internal_stringslite_Cut.at_ internal_stringslite_Cut.body (internal_stringslite_Cut.snd  hp1)) ?_
  rintro _ _ ⟨rfl, rfl⟩
  refine qS 10 rfl (ok_extract · (.tmp rfl) rfl) ?_
  try dsimp only [w0, w1, w2, w3]
  refine qS 11 rfl (ok_extract · (.tmp rfl) rfl) ?_
  refine qS 12 rfl (ok_extract · (.tmp rfl) rfl) ?_
  refine qS 4 rfl (ok_assign · (.tmp rfl)) ?_
  refine qS 5 rfl (ok_assign · (.tmp rfl)) ?_
  try dsimp only [w0, w1, w2, w3]
  refine qS 6 rfl (ok_assign · (.tmp rfl)) ?_
  refine hr_region_end ?_
  try dsimp only [w0, w1, w2, w3]
  cases h
  exact q_ret rfl at_.at_ rfl (res3 rfl rfl rfl rfl) ⟨rfl, rfl⟩
end
end strings_Cut
namespace glob_given
theorem at_ : FnAt Tryd.prog 32 Tryd.f32 := ⟨Tryd.func32, by kernel_rfl⟩
noncomputable def d0 := (Tryd.f32.body).getD .skip
noncomputable def r1 := kR (kA d0)
noncomputable def r4 := kR (kA (kA (kB d0)))
noncomputable def r7 := kR (kA (kA (kB (kA (kB d0)))))
noncomputable def r11 := kR (kA (kB (kB d0)))
noncomputable def c0 : Code := .seq (.region 0 r1 false) (.seq (.seq (.region 1 r4 false) (.cond (.tmp 4) (.seq (.region 2 r7 false) .ret) .skip)) (.seq (.region 3 r11 false) .ret))
theorem body : Tryd.f32.body = some c0 := by kernel_rfl
section
variable {base : Nat} {W0 : World} {β0 : Bt}
def f (x0 : (List UInt8)) : Option ((List UInt8)) :=
  (if x0 = ([] : List UInt8) then
  some ([42] : List UInt8) else
  some x0)
theorem snd {x0 : (List UInt8)} {S : HS}  {p : (List UInt8)} (h : f x0 = some p) : HCall Tryd.prog base W0 β0 32 [(.str x0)] S (fun v S1 => v = (.str p) ∧ S1 = S) := by
  unfold f at h
  refine HCall.of_run at_.at_ body ?_
  show HRun Tryd.prog base W0 β0 32 none [.code c0] ⟨[(.str x0), τ, τ, τ, τ, τ], []⟩ S _
  refine q_seq rfl ?_
  refine q_region rfl rfl ?_
  refine qS 2 rfl (ok_assign · (.str _)) ?_
  refine hr_region_end ?_
  try dsimp only [w0, w1, w2, w3]
  refine q_seq rfl ?_
  refine q_seq rfl ?_
  refine q_region rfl rfl ?_
  refine qS 3 rfl (ok_move · (.tmp rfl)) ?_
  refine qS 4 rfl (ok_sbin · (.tmp rfl) (.str _) rfl) ?_
  refine hr_region_end ?_
  try dsimp only [w0, w1, w2, w3]
  rcases ifc h with ⟨hc1, h⟩ | ⟨hc1, h⟩
  · refine q_cond_t rfl (.tmp rfl) (decide_eq_true hc1) ?_
    refine q_seq rfl ?_
    refine q_region rfl rfl ?_
    refine qS 2 rfl (ok_assign · (.str _)) ?_
    refine hr_region_end ?_
    try dsimp only [w0, w1, w2, w3]
    cases h
    exact q_ret rfl at_.at_ rfl (res1 rfl rfl) ⟨rfl, rfl⟩
  · refine q_cond_f rfl (.tmp rfl) (decide_eq_false hc1) ?_
    refine q_skipc rfl ?_
    refine q_seq rfl ?_
    refine q_region rfl rfl ?_
    refine qS 5 rfl (ok_move · (.tmp rfl)) ?_
    refine qS 2 rfl (ok_assign · (.tmp rfl)) ?_
    refine hr_region_end ?_
    try dsimp only [w0, w1, w2, w3]
    cases h
    exact q_ret rfl at_.at_ rfl (res1 rfl rfl) ⟨rfl, rfl⟩
end
end glob_given
namespace glob_Complete
theorem at_ : FnAt Tryd.prog 15 Tryd.f15 := ⟨Tryd.func15, by kernel_rfl⟩
noncomputable def d0 := (Tryd.f15.body).getD .skip
noncomputable def r1 := kR (kA d0)
noncomputable def r3 := kR (kA (kB d0))
noncomputable def r5 := kR (kA (kB (kB d0)))
noncomputable def d6 := kB (kB (kB d0))
noncomputable def r9 := kR (kA (kA (kA d6)))
noncomputable def r11 := kR (kA (kB (kA (kA d6))))
noncomputable def r13 := kR (kA (kB (kB (kA (kA d6)))))
noncomputable def r15 := kR (kA (kB (kB (kB (kA (kA d6))))))
noncomputable def r18 := kR (kA (kB d6))
noncomputable def r20 := kR (kA (kB (kB d6)))
noncomputable def c17 : Code := .seq (.region 7 r18 false) (.seq (.region 8 r20 false) .ret)
noncomputable def c10 : Code := .cond (.tmp 15) (.region 4 r11 true) (.seq (.region 5 r13 false) (.cond (.tmp 34) (.region 6 r15 false) .skip))
noncomputable def c0 : Code := .seq (.region 0 r1 false) (.seq (.region 1 r3 false) (.seq (.region 2 r5 false) (.seq (.block 0 (.seq (.region 3 r9 false) c10)) c17)))
theorem body : Tryd.f15.body = some c0 := by kernel_rfl
section
variable {base : Nat} {W0 : World} {β0 : Bt}
def J2 (k : Nat) (y3 : (List UInt8)) (y4 : (List UInt8)) (S : HS) : Option (((List UInt8)) × HS) :=
  (Option.bind (strings_Cut.f k y4 ([64] : List UInt8) S) fun p9 =>
  (Option.bind (glob_given.f y3) fun p10 =>
  (if List.length p10 + List.length ([33] : List UInt8) ≤ 9223372036854775807 then
  (Option.bind (glob_given.f p9.1.1) fun p12 =>
  (if List.length (p10 ++ ([33] : List UInt8)) + List.length p12 ≤ 9223372036854775807 then
  (if List.length ((p10 ++ ([33] : List UInt8)) ++ p12) + List.length ([64] : List UInt8) ≤ 9223372036854775807 then
  (Option.bind (glob_given.f p9.1.2.1) fun p15 =>
  (if List.length (((p10 ++ ([33] : List UInt8)) ++ p12) ++ ([64] : List UInt8)) + List.length p15 ≤ 9223372036854775807 then
  some (((((p10 ++ ([33] : List UInt8)) ++ p12) ++ ([64] : List UInt8)) ++ p15), p9.2) else none)) else none) else none)) else none)))
theorem J2_snd {k : Nat}  {y3 : (List UInt8)} {y4 : (List UInt8)} {S : HS} {p : ((List UInt8)) × HS} {g0 g1 g2 g5 g6 g7 g8 g9 g10 g11 g12 g13 g14 g15 g16 g17 g18 g19 g20 g21 g22 g23 g24 g25 g26 g27 g28 g29 g30 g31 g32 g33 g34 g35 g36 g37 g38 g39 g40 g41 g42 g43 g44 g45 g46 g47 g48 g49 g50 g51 g52 g53 : HV} (h : J2 k y3 y4 S = some p) : HRun Tryd.prog base W0 β0 15 none [.code c17] ⟨[g0, g1, g2, (.str y3), (.str y4), g5, g6, g7, g8, g9, g10, g11, g12, g13, g14, g15, g16, g17, g18, g19, g20, g21, g22, g23, g24, g25, g26, g27, g28, g29, g30, g31, g32, g33, g34, g35, g36, g37, g38, g39, g40, g41, g42, g43, g44, g45, g46, g47, g48, g49, g50, g51, g52, g53], []⟩ S (fun v S1 => v = (.str p.1) ∧ S1 = p.2) := by
  unfold J2 at h
  refine q_seq rfl ?_
  refine q_region rfl rfl ?_
  refine qS 39 rfl (ok_move · (.tmp rfl)) ?_
  obtain ⟨p9, hp9, h⟩ := bindo h
  refine q_call (dst := some 40) rfl (.func _) (.cons (.tmp rfl) (.cons (.str _) Evs.nil)) (HInv.static strings_Cut.at_ strings_Cut.body (strings_Cut.snd  hp9)) ?_
  rintro _ _ ⟨rfl, rfl⟩
  refine qS 38 rfl (ok_move · (.tmp rfl)) ?_
  refine qS 41 rfl (ok_extract · (.tmp rfl) rfl) ?_
  try dsimp only [w0, w1, w2, w3]
  refine qS 42 rfl (ok_extract · (.tmp rfl) rfl) ?_
  refine qS 43 rfl (ok_extract · (.tmp rfl) rfl) ?_
  refine qS 7 rfl (ok_assign · (.tmp rfl)) ?_
  refine qS 8 rfl (ok_assign · (.tmp rfl)) ?_
  try dsimp only [w0, w1, w2, w3]
  refine qS 9 rfl (ok_assign · (.tmp rfl)) ?_
  refine hr_region_end ?_
  try dsimp only [w0, w1, w2, w3]
  refine q_seq rfl ?_
  refine q_region rfl rfl ?_
  refine qS 44 rfl (ok_move · (.tmp rfl)) ?_
  obtain ⟨p10, hp10, h⟩ := bindo h
  refine q_call (dst := some 45) rfl (.func _) (.cons (.tmp rfl) Evs.nil) (HInv.static glob_given.at_ glob_given.body (glob_given.snd  hp10)) ?_
  rintro _ _ ⟨rfl, rfl⟩
  obtain ⟨hg11, h⟩ := gd h
  refine qS 46 rfl (ok_sadd · (.tmp rfl) (.str _) hg11) ?_
  refine qS 47 rfl (ok_move · (.tmp rfl)) ?_
  try dsimp only [w0, w1, w2, w3]
  obtain ⟨p12, hp12, h⟩ := bindo h
  refine q_call (dst := some 48) rfl (.func _) (.cons (.tmp rfl) Evs.nil) (HInv.static glob_given.at_ glob_given.body (glob_given.snd  hp12)) ?_
  rintro _ _ ⟨rfl, rfl⟩
  obtain ⟨hg13, h⟩ := gd h
  refine qS 49 rfl (ok_sadd · (.tmp rfl) (.tmp rfl) hg13) ?_
  obtain ⟨hg14, h⟩ := gd h
  refine qS 50 rfl (ok_sadd · (.tmp rfl) (.str _) hg14) ?_
  refine qS 51 rfl (ok_move · (.tmp rfl)) ?_
  try dsimp only [w0, w1, w2, w3]
  obtain ⟨p15, hp15, h⟩ := bindo h
  refine q_call (dst := some 52) rfl (.func _) (.cons (.tmp rfl) Evs.nil) (HInv.static glob_given.at_ glob_given.body (glob_given.snd  hp15)) ?_
  rintro _ _ ⟨rfl, rfl⟩
  obtain ⟨hg16, h⟩ := gd h
  refine qS 53 rfl (ok_sadd · (.tmp rfl) (.tmp rfl) hg16) ?_
  refine qS 2 rfl (ok_assign · (.tmp rfl)) ?_
  refine hr_region_end ?_
  try dsimp only [w0, w1, w2, w3]
  cases h
  exact q_ret rfl at_.at_ rfl (res1 rfl rfl) ⟨rfl, rfl⟩
def J1 (k : Nat) (y0 : (List UInt8)) (y3 : (List UInt8)) (y4 : (List UInt8)) (y5 : Int) (y6 : Int) (y26 : Bool) (S : HS) : Option (((List UInt8)) × HS) :=
  (if y26 = true then
  (if 0 ≤ (0 : Int) ∧ (0 : Int) ≤ y5 ∧ (y5 : Int) ≤ (List.length y0 : Int) then
  (if 0 ≤ ((w64 (y5 + 1)) : Int) ∧ ((w64 (y5 + 1)) : Int) ≤ (List.length y0 : Int) ∧ ((List.length y0 : Int) : Int) ≤ (List.length y0 : Int) then
  J2 k (ssub y0 0 y5) (ssub y0 (w64 (y5 + 1)) (List.length y0 : Int)) S else none) else none) else
  (if y6 ≥ 0 then
  J2 k ([] : List UInt8) y0 S else
  J2 k y3 y4 S))
theorem J1_snd {k : Nat}  {y0 : (List UInt8)} {y3 : (List UInt8)} {y4 : (List UInt8)} {y5 : Int} {y6 : Int} {y26 : Bool} {S : HS} {p : ((List UInt8)) × HS} {g1 g2 g7 g8 g9 g10 g11 g12 g13 g14 g15 g16 g17 g18 g19 g20 g21 g22 g23 g24 g25 g27 g28 g29 g30 g31 g32 g33 g34 g35 g36 g37 g38 g39 g40 g41 g42 g43 g44 g45 g46 g47 g48 g49 g50 g51 g52 g53 : HV} (h : J1 k y0 y3 y4 y5 y6 y26 S = some p) : HRun Tryd.prog base W0 β0 15 none [.inRegion r9 [11], .code c10, .inBlock 0, .code c17] ⟨[(.str y0), g1, g2, (.str y3), (.str y4), (.int .i64 y5), (.int .i64 y6), g7, g8, g9, g10, g11, g12, g13, g14, g15, g16, g17, g18, g19, g20, g21, g22, g23, g24, g25, (.bool y26), g27, g28, g29, g30, g31, g32, g33, g34, g35, g36, g37, g38, g39, g40, g41, g42, g43, g44, g45, g46, g47, g48, g49, g50, g51, g52, g53], []⟩ S (fun v S1 => v = (.str p.1) ∧ S1 = p.2) := by
  unfold J1 at h
  refine qS 15 rfl (ok_assign · (.tmp rfl)) ?_
  refine hr_region_end ?_
  try dsimp only [w0, w1, w2, w3]
  rcases ifc h with ⟨hc6, h⟩ | ⟨hc6, h⟩
  · refine q_cond_t rfl (.tmp rfl) hc6 ?_
    refine x_start (cls := [0, 0, 0, 0, 0, 0, 0, 0, 0]) (rk := [0, 1, 2, 3, 4, 5, 6, 7, 8]) rfl (by kernel_rfl) ?_
    refine yf 27 [0] rfl (ok_move · (.tmp rfl)) ?_
    refine yf 28 [5] rfl (ok_move · (.tmp rfl)) ?_
    obtain ⟨hg7, h⟩ := gd h
    refine yf 29 [27, 28] rfl (ok_slice_str (kl := .i64) (kh := .i64) (l := 0) (h := y5) · tu9 (.tmp rfl) (.inl ⟨rfl, rfl⟩) (.inr ⟨_, rfl, (.tmp rfl)⟩) hg7.1 hg7.2.1 hg7.2.2) ?_
    refine yf 30 [0] rfl (ok_move · (.tmp rfl)) ?_
    try dsimp only [w0, w1, w2, w3]
    refine yf 31 [5] rfl (ok_move · (.tmp rfl)) ?_
    refine yf 32 [31] rfl (ok_ibin · (.tmp rfl) (.int _ _) rfl) ?_
    obtain ⟨hg8, h⟩ := gd h
    refine yf 33 [30, 32] rfl (ok_slice_str (kl := .i64) (kh := .i64) (l := (w64 (y5 + 1))) (h := (List.length y0 : Int)) · tu9 (.tmp rfl) (.inr ⟨_, rfl, (.tmp rfl)⟩) (.inl ⟨rfl, rfl⟩) hg8.1 hg8.2.1 hg8.2.2) ?_
    refine yf 3 [29] rfl (ok_assign · (.tmp rfl)) ?_
    try dsimp only [w0, w1, w2, w3]
    refine yf 4 [33] rfl (ok_assign · (.tmp rfl)) ?_
    refine x_rest rfl ?_
    refine hr_region_end ?_
    try dsimp only [w0, w1, w2, w3]
    refine hr_inBlock ?_
    try dsimp only [w0, w1, w2, w3]
    exact J2_snd  h
  · refine q_cond_f rfl (.tmp rfl) (bfalse hc6) ?_
    refine q_seq rfl ?_
    refine q_region rfl rfl ?_
    refine qS 35 rfl (ok_move · (.tmp rfl)) ?_
    refine qS 36 rfl (ok_ibin · (.tmp rfl) (.int _ _) rfl) ?_
    refine qS 34 rfl (ok_assign · (.tmp rfl)) ?_
    refine hr_region_end ?_
    try dsimp only [w0, w1, w2, w3]
    rcases ifc h with ⟨hc17, h⟩ | ⟨hc17, h⟩
    · refine q_cond_t rfl (.tmp rfl) (decide_eq_true hc17) ?_
      refine q_region rfl rfl ?_
      refine qS 37 rfl (ok_move · (.tmp rfl)) ?_
      refine qS 3 rfl (ok_assign · (.str _)) ?_
      refine qS 4 rfl (ok_assign · (.tmp rfl)) ?_
      refine hr_region_end ?_
      try dsimp only [w0, w1, w2, w3]
      refine hr_inBlock ?_
      try dsimp only [w0, w1, w2, w3]
      exact J2_snd  h
    · refine q_cond_f rfl (.tmp rfl) (decide_eq_false hc17) ?_
      refine q_skipc rfl ?_
      refine hr_inBlock ?_
      try dsimp only [w0, w1, w2, w3]
      exact J2_snd  h
def J0 (k : Nat) (y0 : (List UInt8)) (y3 : (List UInt8)) (y4 : (List UInt8)) (y5 : Int) (y6 : Int) (y18 : Bool) (y25 : Bool) (S : HS) : Option (((List UInt8)) × HS) :=
  (if y18 = true then
  J1 k y0 y3 y4 y5 y6 y25 S else
  J1 k y0 y3 y4 y5 y6 false S)
theorem J0_snd {k : Nat}  {y0 : (List UInt8)} {y3 : (List UInt8)} {y4 : (List UInt8)} {y5 : Int} {y6 : Int} {y18 : Bool} {y25 : Bool} {S : HS} {p : ((List UInt8)) × HS} {g1 g2 g7 g8 g9 g10 g11 g12 g13 g14 g15 g16 g17 g19 g20 g21 g22 g23 g24 g26 g27 g28 g29 g30 g31 g32 g33 g34 g35 g36 g37 g38 g39 g40 g41 g42 g43 g44 g45 g46 g47 g48 g49 g50 g51 g52 g53 : HV} (h : J0 k y0 y3 y4 y5 y6 y18 y25 S = some p) : HRun Tryd.prog base W0 β0 15 none [.inRegion r9 [10, 11], .code c10, .inBlock 0, .code c17] ⟨[(.str y0), g1, g2, (.str y3), (.str y4), (.int .i64 y5), (.int .i64 y6), g7, g8, g9, g10, g11, g12, g13, g14, g15, g16, g17, (.bool y18), g19, g20, g21, g22, g23, g24, (.bool y25), g26, g27, g28, g29, g30, g31, g32, g33, g34, g35, g36, g37, g38, g39, g40, g41, g42, g43, g44, g45, g46, g47, g48, g49, g50, g51, g52, g53], []⟩ S (fun v S1 => v = (.str p.1) ∧ S1 = p.2) := by
  unfold J0 at h
  rcases ifc h with ⟨hc5, h⟩ | ⟨hc5, h⟩
  · refine qS 26 rfl (ok_pick_tt · (.tmp rfl) hc5 (.tmp rfl)) ?_
    try dsimp only [w0, w1, w2, w3]
    exact J1_snd  h
  · refine qS 26 rfl (ok_pick_ff · (.tmp rfl) (bfalse hc5) (.bool _)) ?_
    try dsimp only [w0, w1, w2, w3]
    exact J1_snd  h
def f (k : Nat) (x0 : (List UInt8)) (S : HS) : Option (((List UInt8)) × HS) :=
  (Option.bind (strings_IndexByte.f x0 33) fun p1 =>
  (Option.bind (strings_IndexByte.f x0 64) fun p2 =>
  (if p1 ≥ 0 then
  (if p2 < 0 then
  J0 k x0 x0 ([] : List UInt8) p1 p2 (decide (p1 ≥ 0)) true S else
  J0 k x0 x0 ([] : List UInt8) p1 p2 (decide (p1 ≥ 0)) (decide (p1 < p2)) S) else
  J1 k x0 x0 ([] : List UInt8) p1 p2 false S)))
theorem snd {k : Nat} {x0 : (List UInt8)} {S : HS}  {p : ((List UInt8)) × HS} (h : f k x0 S = some p) : HCall Tryd.prog base W0 β0 15 [(.str x0)] S (fun v S1 => v = (.str p.1) ∧ S1 = p.2) := by
  unfold f at h
  refine HCall.of_run at_.at_ body ?_
  show HRun Tryd.prog base W0 β0 15 none [.code c0] ⟨[(.str x0), τ, τ, τ, τ, τ, τ, τ, τ, τ, τ, τ, τ, τ, τ, τ, τ, τ, τ, τ, τ, τ, τ, τ, τ, τ, τ, τ, τ, τ, τ, τ, τ, τ, τ, τ, τ, τ, τ, τ, τ, τ, τ, τ, τ, τ, τ, τ, τ, τ, τ, τ, τ, τ], []⟩ S _
  refine q_seq rfl ?_
  refine q_region rfl rfl ?_
  refine qS 2 rfl (ok_assign · (.str _)) ?_
  refine hr_region_end ?_
  try dsimp only [w0, w1, w2, w3]
  refine q_seq rfl ?_
  refine q_region rfl rfl ?_
  refine qS 10 rfl (ok_move · (.tmp rfl)) ?_
  refine qS 3 rfl (ok_assign · (.tmp rfl)) ?_
  refine qS 4 rfl (ok_assign · (.str _)) ?_
  refine hr_region_end ?_
  try dsimp only [w0, w1, w2, w3]
  refine q_seq rfl ?_
  refine q_region rfl rfl ?_
  refine qS 11 rfl (ok_move · (.tmp rfl)) ?_
  obtain ⟨p1, hp1, h⟩ := bindo h
  refine q_call (dst := some 12) rfl (.func _) (.cons (.tmp rfl) (.cons (.int _ _) Evs.nil)) (HInv.static strings_IndexByte.at_ strings_IndexByte.body (strings_IndexByte.snd  hp1)) ?_
  rintro _ _ ⟨rfl, rfl⟩
  refine qS 13 rfl (ok_move · (.tmp rfl)) ?_
  obtain ⟨p2, hp2, h⟩ := bindo h
  refine q_call (dst := some 14) rfl (.func _) (.cons (.tmp rfl) (.cons (.int _ _) Evs.nil)) (HInv.static strings_IndexByte.at_ strings_IndexByte.body (strings_IndexByte.snd  hp2)) ?_
  rintro _ _ ⟨rfl, rfl⟩
  try dsimp only [w0, w1, w2, w3]
  refine qS 5 rfl (ok_assign · (.tmp rfl)) ?_
  refine qS 6 rfl (ok_assign · (.tmp rfl)) ?_
  refine hr_region_end ?_
  try dsimp only [w0, w1, w2, w3]
  refine q_seq rfl ?_
  refine q_block rfl ?_
  refine q_seq rfl ?_
  refine q_region rfl rfl ?_
  refine qS 16 rfl (ok_move · (.tmp rfl)) ?_
  refine qS 17 rfl (ok_ibin · (.tmp rfl) (.int _ _) rfl) ?_
  refine qS 18 rfl (ok_move · (.tmp rfl)) ?_
  rcases ifc h with ⟨hc3, h⟩ | ⟨hc3, h⟩
  · refine qG 18 19 rfl (decide_eq_true hc3) (ok_move · (.tmp rfl)) ?_
    try dsimp only [w0, w1, w2, w3]
    refine qG 18 20 rfl (decide_eq_true hc3) (ok_ibin · (.tmp rfl) (.int _ _) rfl) ?_
    refine qG 18 21 rfl (decide_eq_true hc3) (ok_move · (.tmp rfl)) ?_
    rcases ifc h with ⟨hc4, h⟩ | ⟨hc4, h⟩
    · refine q_skip (dst := some 22) (t := 21) rfl rfl rfl (decide_eq_true hc4) ?_
      refine q_skip (dst := some 23) (t := 21) rfl rfl rfl (decide_eq_true hc4) ?_
      try dsimp only [w0, w1, w2, w3]
      refine q_skip (dst := some 24) (t := 21) rfl rfl rfl (decide_eq_true hc4) ?_
      refine qG 18 25 rfl (decide_eq_true hc3) (ok_pick_tt · (.tmp rfl) (decide_eq_true hc4) (.bool _)) ?_
      try dsimp only [w0, w1, w2, w3]
      exact J0_snd  h
    · refine qG 21 22 rfl (decide_eq_false hc4) (ok_move · (.tmp rfl)) ?_
      refine qG 21 23 rfl (decide_eq_false hc4) (ok_move · (.tmp rfl)) ?_
      try dsimp only [w0, w1, w2, w3]
      refine qG 21 24 rfl (decide_eq_false hc4) (ok_ibin · (.tmp rfl) (.tmp rfl) rfl) ?_
      refine qG 18 25 rfl (decide_eq_true hc3) (ok_pick_ff · (.tmp rfl) (decide_eq_false hc4) (.tmp rfl)) ?_
      try dsimp only [w0, w1, w2, w3]
      exact J0_snd  h
  · refine q_skip (dst := some 19) (t := 18) rfl rfl rfl (decide_eq_false hc3) ?_
    try dsimp only [w0, w1, w2, w3]
    refine q_skip (dst := some 20) (t := 18) rfl rfl rfl (decide_eq_false hc3) ?_
    refine q_skip (dst := some 21) (t := 18) rfl rfl rfl (decide_eq_false hc3) ?_
    refine q_skip_u (dst := some 22) (t := 21) rfl rfl rfl ?_
    refine q_skip_u (dst := some 23) (t := 21) rfl rfl rfl ?_
    try dsimp only [w0, w1, w2, w3]
    refine q_skip_u (dst := some 24) (t := 21) rfl rfl rfl ?_
    refine q_skip (dst := some 25) (t := 18) rfl rfl rfl (decide_eq_false hc3) ?_
    refine qS 26 rfl (ok_pick_ff · (.tmp rfl) (decide_eq_false hc3) (.bool _)) ?_
    try dsimp only [w0, w1, w2, w3]
    exact J1_snd  h
end
end glob_Complete
namespace strings_Builder_copyCheck
theorem at_ : FnAt Tryd.prog 51 Tryd.f51 := ⟨Tryd.func51, by kernel_rfl⟩
noncomputable def d0 := (Tryd.f51.body).getD .skip
noncomputable def r1 := kR (kA d0)
noncomputable def r3 := kR (kA (kB d0))
noncomputable def r5 := kR (kA (kB (kB d0)))
noncomputable def c0 : Code := .seq (.region 0 r1 false) (.cond (.tmp 6) (.region 1 r3 false) (.seq (.region 2 r5 false) (.cond (.tmp 19) (kA (kB (kB (kB d0)))) .skip)))
theorem body : Tryd.f51.body = some c0 := by kernel_rfl
section
variable {base : Nat} {W0 : World} {β0 : Bt}
def J0  (S : HS) : Option ((Unit) × HS) :=
  some ((), S)
theorem J0_snd   {S : HS} {p : (Unit) × HS} {g0 g1 g2 g3 g4 g5 g6 g7 g8 g9 g10 g11 g12 g13 g14 g15 g16 g17 g18 g19 : HV} (h : J0  S = some p) : HRun Tryd.prog base W0 β0 51 none [] ⟨[g0, g1, g2, g3, g4, g5, g6, g7, g8, g9, g10, g11, g12, g13, g14, g15, g16, g17, g18, g19], []⟩ S (fun v S1 => v = (.tup []) ∧ S1 = p.2) := by
  unfold J0 at h
  cases h
  exact q_end at_.at_ rfl (res0 rfl) ⟨rfl, rfl⟩
def f (x0 : (Option HA)) (S : HS) : Option ((Unit) × HS) :=
  (Option.bind (x0) fun p1 =>
  (Option.bind (HS.ldP S (HA.fld p1 0)) fun p2 =>
  (if (Option.isNone p2) = true then
  (if HS.spot S x0 = true then
  (if HS.spotT S x0 43 2 = true then
  (Option.bind (x0) fun p6 =>
  (Option.bind (HS.sets S (HA.fld p6 0) [(.ptr x0)]) fun p7 =>
  J0 p7)) else none) else none) else
  (Option.bind (x0) fun p8 =>
  (Option.bind (HS.ldP S (HA.fld p8 0)) fun p9 =>
  (Option.bind (pEq p9 x0) fun p10 =>
  (if (!p10) = true then
  none else
  J0 S)))))))
theorem snd {x0 : (Option HA)} {S : HS}  {p : (Unit) × HS} (h : f x0 S = some p) : HCall Tryd.prog base W0 β0 51 [(.ptr x0)] S (fun v S1 => v = (.tup []) ∧ S1 = p.2) := by
  unfold f at h
  refine HCall.of_run at_.at_ body ?_
  show HRun Tryd.prog base W0 β0 51 none [.code c0] ⟨[(.ptr x0), τ, τ, τ, τ, τ, τ, τ, τ, τ, τ, τ, τ, τ, τ, τ, τ, τ, τ, τ], []⟩ S _
  refine q_seq rfl ?_
  refine q_region rfl rfl ?_
  refine qS 2 rfl (ok_move · (.tmp rfl)) ?_
  obtain ⟨p1, hp1, h⟩ := bindo h
  refine qS 3 rfl (ok_nilCheck_p · (.tmp rfl) hp1) ?_
  refine qS 4 rfl (ok_fieldAddr_s · fi43_0 (by decide) (.tmp rfl) rfl) ?_
  obtain ⟨p2, hp2, h⟩ := bindo h
  refine qS 5 rfl (ok_load_s · sc40 (.tmp rfl) rfl (ldP_out hp2)) ?_
  try dsimp only [w0, w1, w2, w3]
  refine qS 6 rfl (ok_nil_ptr · tu40 (.tmp rfl) (.inl ⟨rfl, rfl⟩)) ?_
  refine hr_region_end ?_
  try dsimp only [w0, w1, w2, w3]
  rcases ifc h with ⟨hc3, h⟩ | ⟨hc3, h⟩
  · refine q_cond_t rfl (.tmp rfl) hc3 ?_
    refine q_region rfl rfl ?_
    refine qS 7 rfl (ok_move · (.tmp rfl)) ?_
    refine qS 8 rfl (ok_move · (.tmp rfl)) ?_
    obtain ⟨hg4, h⟩ := gd h
    refine qS 9 rfl (ok_toUnsafe · tu40 tu70 nz43 (.tmp rfl) hg4) ?_
    refine qS 10 rfl (ok_noEscape · ext65 (.tmp rfl)) ?_
    try dsimp only [w0, w1, w2, w3]
    obtain ⟨hg5, h⟩ := gd h
    refine qS 11 rfl (ok_fromUnsafe (z := 2) · tu70 tu40 ih43 cz43 (cz43 ▸ by decide) (.tmp rfl) hg5) ?_
    obtain ⟨p6, hp6, h⟩ := bindo h
    refine qS 12 rfl (ok_nilCheck_p · (.tmp rfl) hp6) ?_
    refine qS 13 rfl (ok_fieldAddr_s · fi43_0 (by decide) (.tmp rfl) rfl) ?_
    obtain ⟨p7, hp7, h⟩ := bindo h
    refine qN rfl (ok_store_s (v := (.ptr x0)) · sz40 (.tmp rfl) rfl (.tmp rfl) rfl hp7) ?_
    refine hr_region_end ?_
    try dsimp only [w0, w1, w2, w3]
    try dsimp only [w0, w1, w2, w3]
    exact J0_snd  h
  · refine q_cond_f rfl (.tmp rfl) (bfalse hc3) ?_
    refine q_seq rfl ?_
    refine q_region rfl rfl ?_
    refine qS 14 rfl (ok_move · (.tmp rfl)) ?_
    obtain ⟨p8, hp8, h⟩ := bindo h
    refine qS 15 rfl (ok_nilCheck_p · (.tmp rfl) hp8) ?_
    refine qS 16 rfl (ok_fieldAddr_s · fi43_0 (by decide) (.tmp rfl) rfl) ?_
    obtain ⟨p9, hp9, h⟩ := bindo h
    refine qS 17 rfl (ok_load_s · sc40 (.tmp rfl) rfl (ldP_out hp9)) ?_
    try dsimp only [w0, w1, w2, w3]
    refine qS 18 rfl (ok_move · (.tmp rfl)) ?_
    obtain ⟨p10, hp10, h⟩ := bindo h
    refine qS 19 rfl (ok_ptr_eq · tu40 ih43 (.tmp rfl) (.tmp rfl) hp10 (.inr ⟨rfl, rfl⟩)) ?_
    refine hr_region_end ?_
    try dsimp only [w0, w1, w2, w3]
    rcases ifc h with ⟨hc11, h⟩ | ⟨hc11, h⟩
    · refine q_cond_t rfl (.tmp rfl) hc11 ?_
      cases h
    · refine q_cond_f rfl (.tmp rfl) (bfalse hc11) ?_
      refine q_skipc rfl ?_
      try dsimp only [w0, w1, w2, w3]
      exact J0_snd  h
end
end strings_Builder_copyCheck
namespace strings_Builder_WriteByte
theorem at_ : FnAt Tryd.prog 34 Tryd.f34 := ⟨Tryd.func34, by kernel_rfl⟩
noncomputable def d0 := (Tryd.f34.body).getD .skip
noncomputable def r1 := kR (kA d0)
noncomputable def r3 := kR (kA (kB d0))
noncomputable def r5 := kR (kA (kB (kB d0)))
noncomputable def r7 := kR (kA (kB (kB (kB d0))))
noncomputable def c0 : Code := .seq (.region 0 r1 false) (.seq (.region 1 r3 false) (.seq (.region 2 r5 false) (.seq (.region 3 r7 false) .ret)))
theorem body : Tryd.f34.body = some c0 := by kernel_rfl
section
variable {base : Nat} {W0 : World} {β0 : Bt}
def f (x0 : (Option HA)) (x1 : Int) (S : HS) : Option ((HV) × HS) :=
  (Option.bind (strings_Builder_copyCheck.f x0 S) fun p1 =>
  (Option.bind (x0) fun p2 =>
  (Option.bind (HS.ldSl p1.2 (HA.fld p2 1)) fun p3 =>
  (letv (HS.lit p1.2 [[(.int .u8 x1)]] 1) fun p4 =>
  (Option.bind (HS.rows (p4.2) (p4.1) 1) fun p5 =>
  (Option.bind (HS.appT (p4.2) p3 p5 1 5) fun p6 =>
  (Option.bind (x0) fun p7 =>
  (Option.bind (HS.sets (p6.2) (HA.fld p7 1) [(Sl.hv (p6.1))]) fun p8 =>
  some (HV.nilIf, p8)))))))))
theorem snd {x0 : (Option HA)} {x1 : Int} {S : HS}  {p : (HV) × HS} (h : f x0 x1 S = some p) : HCall Tryd.prog base W0 β0 34 [(.ptr x0), (.int .u8 x1)] S (fun v S1 => v = p.1 ∧ S1 = p.2) := by
  unfold f at h
  refine HCall.of_run at_.at_ body ?_
  show HRun Tryd.prog base W0 β0 34 none [.code c0] ⟨[(.ptr x0), (.int .u8 x1), τ, τ, τ, τ, τ, τ, τ, τ, τ, τ, τ, τ, τ, τ, τ], []⟩ S _
  refine q_seq rfl ?_
  refine q_region rfl rfl ?_
  refine qS 4 rfl (ok_assign · (.const fun _ => .nilIf)) ?_
  refine hr_region_end ?_
  try dsimp only [w0, w1, w2, w3]
  refine q_seq rfl ?_
  refine q_region rfl rfl ?_
  refine qS 5 rfl (ok_move · (.tmp rfl)) ?_
  obtain ⟨p1, hp1, h⟩ := bindo h
  refine q_call (dst := some 6) rfl (.func _) (.cons (.tmp rfl) Evs.nil) (HInv.static strings_Builder_copyCheck.at_ strings_Builder_copyCheck.body (strings_Builder_copyCheck.snd  hp1)) ?_
  rintro _ _ ⟨rfl, rfl⟩
  refine hr_region_end ?_
  try dsimp only [w0, w1, w2, w3]
  refine q_seq rfl ?_
  refine q_region rfl rfl ?_
  refine qS 7 rfl (ok_move · (.tmp rfl)) ?_
  refine qS 8 rfl (ok_move · (.tmp rfl)) ?_
  obtain ⟨p2, hp2, h⟩ := bindo h
  refine qS 9 rfl (ok_nilCheck_p · (.tmp rfl) hp2) ?_
  refine qS 10 rfl (ok_fieldAddr_s · fi43_1 (by decide) (.tmp rfl) rfl) ?_
  try dsimp only [w0, w1, w2, w3]
  obtain ⟨p3, hp3, h⟩ := bindo h
  refine qS 11 rfl (ok_load_s · sc41 (.tmp rfl) rfl (ldSl_out hp3)) ?_
  refine qS 12 rfl (ok_move · (.tmp rfl)) ?_
  obtain ⟨p4, hp4, h⟩ := leto h
  refine qS 13 rfl (ok_buildSlice_s (xs := [(.tmp 12)]) el41 · rfl rfl (by decide) (.cons (.tmp rfl) Evs.nil) rfl rfl hp4) ?_
  obtain ⟨p5, hp5, h⟩ := bindo h
  obtain ⟨p6, hp6, h⟩ := bindo h
  refine qS 14 rfl (ok_appendT (s := p3) (s1 := (p4.1)) el41 · rfl rfl ⟨_, tu41⟩ (.tmp rfl) (.tmp rfl) hp5 hp6) ?_
  try dsimp only [w0, w1, w2, w3]
  obtain ⟨p7, hp7, h⟩ := bindo h
  refine qS 15 rfl (ok_nilCheck_p · (.tmp rfl) hp7) ?_
  refine qS 16 rfl (ok_fieldAddr_s · fi43_1 (by decide) (.tmp rfl) rfl) ?_
  obtain ⟨p8, hp8, h⟩ := bindo h
  refine qN rfl (ok_store_s (v := (Sl.hv (p6.1))) · sz41 (.tmp rfl) rfl (.tmp rfl) rfl hp8) ?_
  refine hr_region_end ?_
  try dsimp only [w0, w1, w2, w3]
  refine q_seq rfl ?_
  refine q_region rfl rfl ?_
  refine qS 4 rfl (ok_assign · (.const fun _ => .nilIf)) ?_
  refine hr_region_end ?_
  try dsimp only [w0, w1, w2, w3]
  cases h
  exact q_ret rfl at_.at_ rfl (res1 rfl rfl) ⟨rfl, rfl⟩
end
end strings_Builder_WriteByte
namespace strings_Builder_WriteString
theorem at_ : FnAt Tryd.prog 35 Tryd.f35 := ⟨Tryd.func35, by kernel_rfl⟩
noncomputable def d0 := (Tryd.f35.body).getD .skip
noncomputable def r1 := kR (kA d0)
noncomputable def r3 := kR (kA (kB d0))
noncomputable def r5 := kR (kA (kB (kB d0)))
noncomputable def r7 := kR (kA (kB (kB (kB d0))))
noncomputable def c0 : Code := .seq (.region 0 r1 false) (.seq (.region 1 r3 false) (.seq (.region 2 r5 false) (.seq (.region 3 r7 false) .ret)))
theorem body : Tryd.f35.body = some c0 := by kernel_rfl
section
variable {base : Nat} {W0 : World} {β0 : Bt}
def f (x0 : (Option HA)) (x1 : (List UInt8)) (S : HS) : Option ((Int × HV) × HS) :=
  (Option.bind (strings_Builder_copyCheck.f x0 S) fun p1 =>
  (Option.bind (x0) fun p2 =>
  (Option.bind (HS.ldSl p1.2 (HA.fld p2 1)) fun p3 =>
  (Option.bind (HS.appT p1.2 p3 (bytesRows x1) 1 5) fun p4 =>
  (Option.bind (x0) fun p5 =>
  (Option.bind (HS.sets (p4.2) (HA.fld p5 1) [(Sl.hv (p4.1))]) fun p6 =>
  some (((List.length x1 : Int), HV.nilIf), p6)))))))
theorem snd {x0 : (Option HA)} {x1 : (List UInt8)} {S : HS}  {p : (Int × HV) × HS} (h : f x0 x1 S = some p) : HCall Tryd.prog base W0 β0 35 [(.ptr x0), (.str x1)] S (fun v S1 => v = (.tup [(.int .i64 p.1.1), p.1.2]) ∧ S1 = p.2) := by
  unfold f at h
  refine HCall.of_run at_.at_ body ?_
  show HRun Tryd.prog base W0 β0 35 none [.code c0] ⟨[(.ptr x0), (.str x1), τ, τ, τ, τ, τ, τ, τ, τ, τ, τ, τ, τ, τ, τ, τ, τ, τ], []⟩ S _
  refine q_seq rfl ?_
  refine q_region rfl rfl ?_
  refine qS 4 rfl (ok_assign · (.int _ _)) ?_
  refine qS 5 rfl (ok_assign · (.const fun _ => .nilIf)) ?_
  refine hr_region_end ?_
  try dsimp only [w0, w1, w2, w3]
  refine q_seq rfl ?_
  refine q_region rfl rfl ?_
  refine qS 6 rfl (ok_move · (.tmp rfl)) ?_
  obtain ⟨p1, hp1, h⟩ := bindo h
  refine q_call (dst := some 7) rfl (.func _) (.cons (.tmp rfl) Evs.nil) (HInv.static strings_Builder_copyCheck.at_ strings_Builder_copyCheck.body (strings_Builder_copyCheck.snd  hp1)) ?_
  rintro _ _ ⟨rfl, rfl⟩
  refine hr_region_end ?_
  try dsimp only [w0, w1, w2, w3]
  refine q_seq rfl ?_
  refine q_region rfl rfl ?_
  refine qS 8 rfl (ok_move · (.tmp rfl)) ?_
  refine qS 9 rfl (ok_move · (.tmp rfl)) ?_
  obtain ⟨p2, hp2, h⟩ := bindo h
  refine qS 10 rfl (ok_nilCheck_p · (.tmp rfl) hp2) ?_
  refine qS 11 rfl (ok_fieldAddr_s · fi43_1 (by decide) (.tmp rfl) rfl) ?_
  try dsimp only [w0, w1, w2, w3]
  obtain ⟨p3, hp3, h⟩ := bindo h
  refine qS 12 rfl (ok_load_s · sc41 (.tmp rfl) rfl (ldSl_out hp3)) ?_
  refine qS 13 rfl (ok_move · (.tmp rfl)) ?_
  obtain ⟨p4, hp4, h⟩ := bindo h
  refine qS 14 rfl (ok_append_strT (s := p3) el41 · rfl rfl tu9 (.tmp rfl) (.tmp rfl) hp4) ?_
  obtain ⟨p5, hp5, h⟩ := bindo h
  refine qS 15 rfl (ok_nilCheck_p · (.tmp rfl) hp5) ?_
  try dsimp only [w0, w1, w2, w3]
  refine qS 16 rfl (ok_fieldAddr_s · fi43_1 (by decide) (.tmp rfl) rfl) ?_
  obtain ⟨p6, hp6, h⟩ := bindo h
  refine qN rfl (ok_store_s (v := (Sl.hv (p4.1))) · sz41 (.tmp rfl) rfl (.tmp rfl) rfl hp6) ?_
  refine hr_region_end ?_
  try dsimp only [w0, w1, w2, w3]
  refine q_seq rfl ?_
  refine q_region rfl rfl ?_
  refine qS 17 rfl (ok_move · (.tmp rfl)) ?_
  refine qS 18 rfl (ok_len_str · rfl tu9 (.tmp rfl)) ?_
  refine qS 4 rfl (ok_assign · (.tmp rfl)) ?_
  refine qS 5 rfl (ok_assign · (.const fun _ => .nilIf)) ?_
  refine hr_region_end ?_
  try dsimp only [w0, w1, w2, w3]
  cases h
  exact q_ret rfl at_.at_ rfl (res2 rfl rfl rfl) ⟨rfl, rfl⟩
end
end strings_Builder_WriteString
namespace strings_Builder_String
theorem at_ : FnAt Tryd.prog 38 Tryd.f38 := ⟨Tryd.func38, by kernel_rfl⟩
noncomputable def d0 := (Tryd.f38.body).getD .skip
noncomputable def r1 := kR (kA d0)
noncomputable def r3 := kR (kA (kB d0))
noncomputable def c0 : Code := .seq (.region 0 r1 false) (.seq (.region 1 r3 true) .ret)
theorem body : Tryd.f38.body = some c0 := by kernel_rfl
section
variable {base : Nat} {W0 : World} {β0 : Bt}
def f (x0 : (Option HA)) (S : HS) : Option (((List UInt8)) × HS) :=
  (Option.bind (x0) fun p1 =>
  (Option.bind (HS.ldSl S (HA.fld p1 1)) fun p2 =>
  (Option.bind (Sl.data p2) fun p3 =>
  (Option.bind (x0) fun p4 =>
  (Option.bind (HS.ldSl S (HA.fld p4 1)) fun p5 =>
  (Option.bind (HS.ustr S p3 (Sl.len p5 : Int) 5) fun p6 =>
  some ((p6.1), (p6.2))))))))
theorem snd {x0 : (Option HA)} {S : HS}  {p : ((List UInt8)) × HS} (h : f x0 S = some p) : HCall Tryd.prog base W0 β0 38 [(.ptr x0)] S (fun v S1 => v = (.str p.1) ∧ S1 = p.2) := by
  unfold f at h
  refine HCall.of_run at_.at_ body ?_
  show HRun Tryd.prog base W0 β0 38 none [.code c0] ⟨[(.ptr x0), τ, τ, τ, τ, τ, τ, τ, τ, τ, τ, τ, τ, τ], []⟩ S _
  refine q_seq rfl ?_
  refine q_region rfl rfl ?_
  refine qS 2 rfl (ok_assign · (.str _)) ?_
  refine hr_region_end ?_
  try dsimp only [w0, w1, w2, w3]
  refine q_seq rfl ?_
  refine x_start (cls := [0, 0, 0, 1, 0, 0, 0, 0, 1, 0, 2, 0]) (rk := [0, 1, 2, 3, 4, 5, 6, 7, 8, 9, 10, 11]) rfl (by kernel_rfl) ?_
  refine yf 3 [0] rfl (ok_move · (.tmp rfl)) ?_
  obtain ⟨p1, hp1, h⟩ := bindo h
  refine yf 4 [3] rfl (ok_nilCheck_p · (.tmp rfl) hp1) ?_
  refine yf 5 [4] rfl (ok_fieldAddr_s · fi43_1 (by decide) (.tmp rfl) rfl) ?_
  obtain ⟨p2, hp2, h⟩ := bindo h
  refine yr 6 [5] rfl (ok_load_s · sc41 (.tmp rfl) rfl (ldSl_out hp2)) ?_
  try dsimp only [w0, w1, w2, w3]
  obtain ⟨p3, hp3, h⟩ := bindo h
  refine yf 7 [6] rfl (ok_sliceData (s := p2) · (.tmp rfl) hp3) ?_
  refine yf 8 [0] rfl (ok_move · (.tmp rfl)) ?_
  obtain ⟨p4, hp4, h⟩ := bindo h
  refine yf 9 [8] rfl (ok_nilCheck_p · (.tmp rfl) hp4) ?_
  refine yf 10 [9] rfl (ok_fieldAddr_s · fi43_1 (by decide) (.tmp rfl) rfl) ?_
  try dsimp only [w0, w1, w2, w3]
  obtain ⟨p5, hp5, h⟩ := bindo h
  refine yr 11 [10] rfl (ok_load_s · sc41 (.tmp rfl) rfl (ldSl_out hp5)) ?_
  refine yf 12 [11] rfl (ok_len_sl (q := Sl.a p5) (n := Sl.len p5) (z := Sl.cap p5) · rfl tu41 (.tmp rfl)) ?_
  obtain ⟨p6, hp6, h⟩ := bindo h
  refine ye 13 [7, 12] rfl (ok_unsafeString · tu65 ch5 (.tmp rfl) (.tmp rfl) hp6) ?_
  refine yf 2 [13] rfl (ok_assign · (.tmp rfl)) ?_
  refine x_rest rfl ?_
  refine hr_region_end ?_
  try dsimp only [w0, w1, w2, w3]
  cases h
  exact q_ret rfl at_.at_ rfl (res1 rfl rfl) ⟨rfl, rfl⟩
end
end strings_Builder_String
namespace glob_Short
theorem at_ : FnAt Tryd.prog 18 Tryd.f18 := ⟨Tryd.func18, by kernel_rfl⟩
noncomputable def d0 := (Tryd.f18.body).getD .skip
noncomputable def r1 := kR (kA d0)
noncomputable def r3 := kR (kA (kB d0))
noncomputable def d5 := kA (kB (kB d0))
noncomputable def r6 := kR (kA d5)
noncomputable def d9 := kA (kA (kB d5))
noncomputable def r11 := kR (kA (kA d9))
noncomputable def r18 := kR (kA (kA (kA (kB d9))))
noncomputable def d20 := kA (kB (kA (kA (kB d9))))
noncomputable def r21 := kR (kA d20)
noncomputable def r23 := kR (kA (kB d20))
noncomputable def d26 := kB (kA (kB d9))
noncomputable def r27 := kR (kA d26)
noncomputable def r33 := kR (kA (kA (kA (kA (kA (kB d26))))))
noncomputable def r38 := kR (kA (kB (kA (kA (kA (kB d26))))))
noncomputable def r39 := kR (kB (kB d26))
noncomputable def r41 := kR (kA (kB (kB (kB d0))))
noncomputable def c40 : Code := .seq (.region 11 r41 false) .ret
noncomputable def c39 : Code := .region 10 r39 false
noncomputable def c37 : Code := .block 3 (.region 9 r38 false)
noncomputable def c34 : Code := .cond (.tmp 36) .skip (.exit 2)
noncomputable def c31 : Code := .seq (.seq (.region 8 r33 false) c34) c37
noncomputable def c9 : Code := .seq (.seq (.region 3 r11 false) (.cond (.tmp 9) .skip (.exit 0))) (.block 1 (.seq (.seq (.region 4 r18 false) (.cond (.tmp 13) (.seq (.region 5 r21 false) (.seq (.region 6 r23 false) (.exit 1))) .skip)) (.seq (.region 7 r27 false) (.seq (.block 2 (.loop c31)) c39))))
noncomputable def c0 : Code := .seq (.region 0 r1 false) (.seq (.region 1 r3 false) (.seq (.seq (.region 2 r6 false) (.block 0 (.loop c9))) c40))
theorem body : Tryd.f18.body = some c0 := by kernel_rfl
section
variable {base : Nat} {W0 : World} {β0 : Bt}
def J3 (k : Nat) (rec0 : (List UInt8) → (Option HA) → Int → Int → HS → Option (((List UInt8)) × HS)) (rec1 : (List UInt8) → (Option HA) → Int → HS → Option (((List UInt8)) × HS)) (y0 : (List UInt8)) (y3 : (Option HA)) (y4 : Int) (y5 : Int) (y36 : Bool) (S : HS) : Option (((List UInt8)) × HS) :=
  (if y36 = true then
  rec0 y0 y3 (w64 (y4 + 1)) y5 S else
  (if 0 ≤ (y5 : Int) ∧ (y5 : Int) ≤ y4 ∧ (y4 : Int) ≤ (List.length y0 : Int) then
  (Option.bind (strings_Count.f (ssub y0 y5 y4) ([63] : List UInt8)) fun p13 =>
  (Option.bind (strings_Repeat.f ([63] : List UInt8) p13) fun p14 =>
  (if List.length p14 + List.length ([42] : List UInt8) ≤ 9223372036854775807 then
  (Option.bind (strings_Builder_WriteString.f y3 (p14 ++ ([42] : List UInt8)) S) fun p16 =>
  rec1 y0 y3 y4 p16.2) else none))) else none))
theorem J3_snd {k : Nat} {rec0 : (List UInt8) → (Option HA) → Int → Int → HS → Option (((List UInt8)) × HS)} {rec1 : (List UInt8) → (Option HA) → Int → HS → Option (((List UInt8)) × HS)} (hrec0 : ∀ ⦃y0 : (List UInt8)⦄ ⦃y3 : (Option HA)⦄ ⦃y4 : Int⦄ ⦃y5 : Int⦄ ⦃S : HS⦄ ⦃p : ((List UInt8)) × HS⦄ ⦃g1 g2 g6 g7 g8 g9 g10 g11 g12 g13 g14 g15 g16 g17 g18 g19 g20 g21 g22 g23 g24 g25 g26 g27 g28 g29 g30 g31 g32 g33 g34 g35 g36 g37 g38 g39 g40 g41 g42 g43 g44 g45 g46 g47 : HV⦄, rec0 y0 y3 y4 y5 S = some p → HRun Tryd.prog base W0 β0 18 none [.inLoop c31, .inBlock 2, .code c39, .inBlock 1, .inLoop c9, .inBlock 0, .code c40] ⟨[(.str y0), g1, g2, (.ptr y3), (.int .i64 y4), (.int .i64 y5), g6, g7, g8, g9, g10, g11, g12, g13, g14, g15, g16, g17, g18, g19, g20, g21, g22, g23, g24, g25, g26, g27, g28, g29, g30, g31, g32, g33, g34, g35, g36, g37, g38, g39, g40, g41, g42, g43, g44, g45, g46, g47], []⟩ S (fun v S1 => v = (.str p.1) ∧ S1 = p.2)) (hrec1 : ∀ ⦃y0 : (List UInt8)⦄ ⦃y3 : (Option HA)⦄ ⦃y4 : Int⦄ ⦃S : HS⦄ ⦃p : ((List UInt8)) × HS⦄ ⦃g1 g2 g5 g6 g7 g8 g9 g10 g11 g12 g13 g14 g15 g16 g17 g18 g19 g20 g21 g22 g23 g24 g25 g26 g27 g28 g29 g30 g31 g32 g33 g34 g35 g36 g37 g38 g39 g40 g41 g42 g43 g44 g45 g46 g47 : HV⦄, rec1 y0 y3 y4 S = some p → HRun Tryd.prog base W0 β0 18 none [.inLoop c9, .inBlock 0, .code c40] ⟨[(.str y0), g1, g2, (.ptr y3), (.int .i64 y4), g5, g6, g7, g8, g9, g10, g11, g12, g13, g14, g15, g16, g17, g18, g19, g20, g21, g22, g23, g24, g25, g26, g27, g28, g29, g30, g31, g32, g33, g34, g35, g36, g37, g38, g39, g40, g41, g42, g43, g44, g45, g46, g47], []⟩ S (fun v S1 => v = (.str p.1) ∧ S1 = p.2)) {y0 : (List UInt8)} {y3 : (Option HA)} {y4 : Int} {y5 : Int} {y36 : Bool} {S : HS} {p : ((List UInt8)) × HS} {g1 g2 g6 g7 g8 g9 g10 g11 g12 g13 g14 g15 g16 g17 g18 g19 g20 g21 g22 g23 g24 g25 g26 g27 g28 g29 g30 g31 g32 g33 g34 g35 g37 g38 g39 g40 g41 g42 g43 g44 g45 g46 g47 : HV} (h : J3 k rec0 rec1 y0 y3 y4 y5 y36 S = some p) : HRun Tryd.prog base W0 β0 18 none [.code c34, .code c37, .inLoop c31, .inBlock 2, .code c39, .inBlock 1, .inLoop c9, .inBlock 0, .code c40] ⟨[(.str y0), g1, g2, (.ptr y3), (.int .i64 y4), (.int .i64 y5), g6, g7, g8, g9, g10, g11, g12, g13, g14, g15, g16, g17, g18, g19, g20, g21, g22, g23, g24, g25, g26, g27, g28, g29, g30, g31, g32, g33, g34, g35, (.bool y36), g37, g38, g39, g40, g41, g42, g43, g44, g45, g46, g47], []⟩ S (fun v S1 => v = (.str p.1) ∧ S1 = p.2) := by
  unfold J3 at h
  rcases ifc h with ⟨hc11, h⟩ | ⟨hc11, h⟩
  · refine q_cond_t rfl (.tmp rfl) hc11 ?_
    refine q_skipc rfl ?_
    refine q_block rfl ?_
    refine q_region rfl rfl ?_
    refine qS 37 rfl (ok_move · (.tmp rfl)) ?_
    refine qS 38 rfl (ok_ibin · (.tmp rfl) (.int _ _) rfl) ?_
    refine qS 4 rfl (ok_assign · (.tmp rfl)) ?_
    refine hr_region_end ?_
    try dsimp only [w0, w1, w2, w3]
    refine hr_inBlock ?_
    try dsimp only [w0, w1, w2, w3]
    exact hrec0 h
  · refine q_cond_f rfl (.tmp rfl) (bfalse hc11) ?_
    refine q_exit rfl rfl ?_
    refine q_region rfl rfl ?_
    refine qS 39 rfl (ok_move · (.tmp rfl)) ?_
    refine qS 40 rfl (ok_move · (.tmp rfl)) ?_
    refine qS 41 rfl (ok_move · (.tmp rfl)) ?_
    obtain ⟨hg12, h⟩ := gd h
    refine qS 42 rfl (ok_slice_str (kl := .i64) (kh := .i64) (l := y5) (h := y4) · tu9 (.tmp rfl) (.inr ⟨_, rfl, (.tmp rfl)⟩) (.inr ⟨_, rfl, (.tmp rfl)⟩) hg12.1 hg12.2.1 hg12.2.2) ?_
    try dsimp only [w0, w1, w2, w3]
    obtain ⟨p13, hp13, h⟩ := bindo h
    refine q_call (dst := some 43) rfl (.func _) (.cons (.tmp rfl) (.cons (.str _) Evs.nil)) (HInv.static strings_Count.at_ strings_Count.body (strings_Count.snd  hp13)) ?_
    rintro _ _ ⟨rfl, rfl⟩
    obtain ⟨p14, hp14, h⟩ := bindo h
    refine q_call (dst := some 44) rfl (.func _) (.cons (.str _) (.cons (.tmp rfl) Evs.nil)) (HInv.static strings_Repeat.at_ strings_Repeat.body (strings_Repeat.snd  hp14)) ?_
    rintro _ _ ⟨rfl, rfl⟩
    obtain ⟨hg15, h⟩ := gd h
    refine qS 45 rfl (ok_sadd · (.tmp rfl) (.str _) hg15) ?_
    obtain ⟨p16, hp16, h⟩ := bindo h
    refine q_call (dst := some 46) rfl (.func _) (.cons (.tmp rfl) (.cons (.tmp rfl) Evs.nil)) (HInv.static strings_Builder_WriteString.at_ strings_Builder_WriteString.body (strings_Builder_WriteString.snd  hp16)) ?_
    rintro _ _ ⟨rfl, rfl⟩
    refine hr_region_end ?_
    try dsimp only [w0, w1, w2, w3]
    refine hr_inBlock ?_
    try dsimp only [w0, w1, w2, w3]
    exact hrec1 h
def J2 (k : Nat) (rec0 : (List UInt8) → (Option HA) → Int → Int → HS → Option (((List UInt8)) × HS)) (rec1 : (List UInt8) → (Option HA) → Int → HS → Option (((List UInt8)) × HS)) (y0 : (List UInt8)) (y3 : (Option HA)) (y4 : Int) (y5 : Int) (y25 : Bool) (y35 : Bool) (S : HS) : Option (((List UInt8)) × HS) :=
  (if y25 = true then
  J3 k rec0 rec1 y0 y3 y4 y5 y35 S else
  J3 k rec0 rec1 y0 y3 y4 y5 false S)
theorem J2_snd {k : Nat} {rec0 : (List UInt8) → (Option HA) → Int → Int → HS → Option (((List UInt8)) × HS)} {rec1 : (List UInt8) → (Option HA) → Int → HS → Option (((List UInt8)) × HS)} (hrec0 : ∀ ⦃y0 : (List UInt8)⦄ ⦃y3 : (Option HA)⦄ ⦃y4 : Int⦄ ⦃y5 : Int⦄ ⦃S : HS⦄ ⦃p : ((List UInt8)) × HS⦄ ⦃g1 g2 g6 g7 g8 g9 g10 g11 g12 g13 g14 g15 g16 g17 g18 g19 g20 g21 g22 g23 g24 g25 g26 g27 g28 g29 g30 g31 g32 g33 g34 g35 g36 g37 g38 g39 g40 g41 g42 g43 g44 g45 g46 g47 : HV⦄, rec0 y0 y3 y4 y5 S = some p → HRun Tryd.prog base W0 β0 18 none [.inLoop c31, .inBlock 2, .code c39, .inBlock 1, .inLoop c9, .inBlock 0, .code c40] ⟨[(.str y0), g1, g2, (.ptr y3), (.int .i64 y4), (.int .i64 y5), g6, g7, g8, g9, g10, g11, g12, g13, g14, g15, g16, g17, g18, g19, g20, g21, g22, g23, g24, g25, g26, g27, g28, g29, g30, g31, g32, g33, g34, g35, g36, g37, g38, g39, g40, g41, g42, g43, g44, g45, g46, g47], []⟩ S (fun v S1 => v = (.str p.1) ∧ S1 = p.2)) (hrec1 : ∀ ⦃y0 : (List UInt8)⦄ ⦃y3 : (Option HA)⦄ ⦃y4 : Int⦄ ⦃S : HS⦄ ⦃p : ((List UInt8)) × HS⦄ ⦃g1 g2 g5 g6 g7 g8 g9 g10 g11 g12 g13 g14 g15 g16 g17 g18 g19 g20 g21 g22 g23 g24 g25 g26 g27 g28 g29 g30 g31 g32 g33 g34 g35 g36 g37 g38 g39 g40 g41 g42 g43 g44 g45 g46 g47 : HV⦄, rec1 y0 y3 y4 S = some p → HRun Tryd.prog base W0 β0 18 none [.inLoop c9, .inBlock 0, .code c40] ⟨[(.str y0), g1, g2, (.ptr y3), (.int .i64 y4), g5, g6, g7, g8, g9, g10, g11, g12, g13, g14, g15, g16, g17, g18, g19, g20, g21, g22, g23, g24, g25, g26, g27, g28, g29, g30, g31, g32, g33, g34, g35, g36, g37, g38, g39, g40, g41, g42, g43, g44, g45, g46, g47], []⟩ S (fun v S1 => v = (.str p.1) ∧ S1 = p.2)) {y0 : (List UInt8)} {y3 : (Option HA)} {y4 : Int} {y5 : Int} {y25 : Bool} {y35 : Bool} {S : HS} {p : ((List UInt8)) × HS} {g1 g2 g6 g7 g8 g9 g10 g11 g12 g13 g14 g15 g16 g17 g18 g19 g20 g21 g22 g23 g24 g26 g27 g28 g29 g30 g31 g32 g33 g34 g36 g37 g38 g39 g40 g41 g42 g43 g44 g45 g46 g47 : HV} (h : J2 k rec0 rec1 y0 y3 y4 y5 y25 y35 S = some p) : HRun Tryd.prog base W0 β0 18 none [.inRegion r33 [15], .code c34, .code c37, .inLoop c31, .inBlock 2, .code c39, .inBlock 1, .inLoop c9, .inBlock 0, .code c40] ⟨[(.str y0), g1, g2, (.ptr y3), (.int .i64 y4), (.int .i64 y5), g6, g7, g8, g9, g10, g11, g12, g13, g14, g15, g16, g17, g18, g19, g20, g21, g22, g23, g24, (.bool y25), g26, g27, g28, g29, g30, g31, g32, g33, g34, (.bool y35), g36, g37, g38, g39, g40, g41, g42, g43, g44, g45, g46, g47], []⟩ S (fun v S1 => v = (.str p.1) ∧ S1 = p.2) := by
  unfold J2 at h
  rcases ifc h with ⟨hc10, h⟩ | ⟨hc10, h⟩
  · refine qS 36 rfl (ok_pick_tt · (.tmp rfl) hc10 (.tmp rfl)) ?_
    refine hr_region_end ?_
    try dsimp only [w0, w1, w2, w3]
    try dsimp only [w0, w1, w2, w3]
    exact J3_snd hrec0 hrec1 h
  · refine qS 36 rfl (ok_pick_ff · (.tmp rfl) (bfalse hc10) (.bool _)) ?_
    refine hr_region_end ?_
    try dsimp only [w0, w1, w2, w3]
    try dsimp only [w0, w1, w2, w3]
    exact J3_snd hrec0 hrec1 h
def L1 (k : Nat) (rec0 : (List UInt8) → (Option HA) → Int → HS → Option (((List UInt8)) × HS)) : Nat → (List UInt8) → (Option HA) → Int → Int → HS → Option (((List UInt8)) × HS)
  | 0, _, _, _, _, _ => none
  | n + 1, y0, y3, y4, y5, S =>
    (if y4 < (List.length y0 : Int) then
    (Option.bind (sat y0 y4) fun p8 =>
    (if (UInt8.toNat p8 : Int) = 42 then
    J2 k (L1 k rec0 n) rec0 y0 y3 y4 y5 (decide (y4 < (List.length y0 : Int))) true S else
    (Option.bind (sat y0 y4) fun p17 =>
    J2 k (L1 k rec0 n) rec0 y0 y3 y4 y5 (decide (y4 < (List.length y0 : Int))) (decide ((UInt8.toNat p17 : Int) = 63)) S))) else
    J3 k (L1 k rec0 n) rec0 y0 y3 y4 y5 false S)
theorem L1_snd {k : Nat} {rec0 : (List UInt8) → (Option HA) → Int → HS → Option (((List UInt8)) × HS)} (hrec0 : ∀ ⦃y0 : (List UInt8)⦄ ⦃y3 : (Option HA)⦄ ⦃y4 : Int⦄ ⦃S : HS⦄ ⦃p : ((List UInt8)) × HS⦄ ⦃g1 g2 g5 g6 g7 g8 g9 g10 g11 g12 g13 g14 g15 g16 g17 g18 g19 g20 g21 g22 g23 g24 g25 g26 g27 g28 g29 g30 g31 g32 g33 g34 g35 g36 g37 g38 g39 g40 g41 g42 g43 g44 g45 g46 g47 : HV⦄, rec0 y0 y3 y4 S = some p → HRun Tryd.prog base W0 β0 18 none [.inLoop c9, .inBlock 0, .code c40] ⟨[(.str y0), g1, g2, (.ptr y3), (.int .i64 y4), g5, g6, g7, g8, g9, g10, g11, g12, g13, g14, g15, g16, g17, g18, g19, g20, g21, g22, g23, g24, g25, g26, g27, g28, g29, g30, g31, g32, g33, g34, g35, g36, g37, g38, g39, g40, g41, g42, g43, g44, g45, g46, g47], []⟩ S (fun v S1 => v = (.str p.1) ∧ S1 = p.2)) : ∀ {n : Nat} ⦃y0 : (List UInt8)⦄ ⦃y3 : (Option HA)⦄ ⦃y4 : Int⦄ ⦃y5 : Int⦄ ⦃S : HS⦄ ⦃p : ((List UInt8)) × HS⦄ ⦃g1 g2 g6 g7 g8 g9 g10 g11 g12 g13 g14 g15 g16 g17 g18 g19 g20 g21 g22 g23 g24 g25 g26 g27 g28 g29 g30 g31 g32 g33 g34 g35 g36 g37 g38 g39 g40 g41 g42 g43 g44 g45 g46 g47 : HV⦄, L1 k rec0 n y0 y3 y4 y5 S = some p → HRun Tryd.prog base W0 β0 18 none [.inLoop c31, .inBlock 2, .code c39, .inBlock 1, .inLoop c9, .inBlock 0, .code c40] ⟨[(.str y0), g1, g2, (.ptr y3), (.int .i64 y4), (.int .i64 y5), g6, g7, g8, g9, g10, g11, g12, g13, g14, g15, g16, g17, g18, g19, g20, g21, g22, g23, g24, g25, g26, g27, g28, g29, g30, g31, g32, g33, g34, g35, g36, g37, g38, g39, g40, g41, g42, g43, g44, g45, g46, g47], []⟩ S (fun v S1 => v = (.str p.1) ∧ S1 = p.2) := by
  intro n
  induction n with
  | zero => intro _ _ _ _ _ _ _ _ _ _ _ _ _ _ _ _ _ _ _ _ _ _ _ _ _ _ _ _ _ _ _ _ _ _ _ _ _ _ _ _ _ _ _ _ _ _ _ _ _ _ h; cases h
  | succ n ih =>
    intro y0 y3 y4 y5 S p g1 g2 g6 g7 g8 g9 g10 g11 g12 g13 g14 g15 g16 g17 g18 g19 g20 g21 g22 g23 g24 g25 g26 g27 g28 g29 g30 g31 g32 g33 g34 g35 g36 g37 g38 g39 g40 g41 g42 g43 g44 g45 g46 g47 h
    simp only [L1] at h
    refine hr_inLoop ?_
    refine q_seq rfl ?_
    refine q_seq rfl ?_
    refine q_region rfl rfl ?_
    refine qS 21 rfl (ok_move · (.tmp rfl)) ?_
    refine qS 22 rfl (ok_move · (.tmp rfl)) ?_
    refine qS 23 rfl (ok_len_str · rfl tu9 (.tmp rfl)) ?_
    refine qS 24 rfl (ok_ibin · (.tmp rfl) (.tmp rfl) rfl) ?_
    try dsimp only [w0, w1, w2, w3]
    refine qS 25 rfl (ok_move · (.tmp rfl)) ?_
    rcases ifc h with ⟨hc7, h⟩ | ⟨hc7, h⟩
    · refine qG 25 26 rfl (decide_eq_true hc7) (ok_move · (.tmp rfl)) ?_
      refine qG 25 27 rfl (decide_eq_true hc7) (ok_move · (.tmp rfl)) ?_
      obtain ⟨p8, hp8, h⟩ := bindo h
      refine qG 25 28 rfl (decide_eq_true hc7) (ok_index_s · tu9 (.tmp rfl) (.tmp rfl) hp8) ?_
      try dsimp only [w0, w1, w2, w3]
      refine qG 25 29 rfl (decide_eq_true hc7) (ok_ibin · (.tmp rfl) (.int _ _) rfl) ?_
      refine qG 25 30 rfl (decide_eq_true hc7) (ok_move · (.tmp rfl)) ?_
      rcases ifc h with ⟨hc9, h⟩ | ⟨hc9, h⟩
      · refine q_skip (dst := some 31) (t := 30) rfl rfl rfl (decide_eq_true hc9) ?_
        refine q_skip (dst := some 32) (t := 30) rfl rfl rfl (decide_eq_true hc9) ?_
        try dsimp only [w0, w1, w2, w3]
        refine q_skip (dst := some 33) (t := 30) rfl rfl rfl (decide_eq_true hc9) ?_
        refine q_skip (dst := some 34) (t := 30) rfl rfl rfl (decide_eq_true hc9) ?_
        refine qG 25 35 rfl (decide_eq_true hc7) (ok_pick_tt · (.tmp rfl) (decide_eq_true hc9) (.bool _)) ?_
        try dsimp only [w0, w1, w2, w3]
        exact J2_snd ih hrec0 h
      · refine qG 30 31 rfl (decide_eq_false hc9) (ok_move · (.tmp rfl)) ?_
        refine qG 30 32 rfl (decide_eq_false hc9) (ok_move · (.tmp rfl)) ?_
        try dsimp only [w0, w1, w2, w3]
        obtain ⟨p17, hp17, h⟩ := bindo h
        refine qG 30 33 rfl (decide_eq_false hc9) (ok_index_s · tu9 (.tmp rfl) (.tmp rfl) hp17) ?_
        refine qG 30 34 rfl (decide_eq_false hc9) (ok_ibin · (.tmp rfl) (.int _ _) rfl) ?_
        refine qG 25 35 rfl (decide_eq_true hc7) (ok_pick_ff · (.tmp rfl) (decide_eq_false hc9) (.tmp rfl)) ?_
        try dsimp only [w0, w1, w2, w3]
        exact J2_snd ih hrec0 h
    · refine q_skip (dst := some 26) (t := 25) rfl rfl rfl (decide_eq_false hc7) ?_
      refine q_skip (dst := some 27) (t := 25) rfl rfl rfl (decide_eq_false hc7) ?_
      refine q_skip (dst := some 28) (t := 25) rfl rfl rfl (decide_eq_false hc7) ?_
      try dsimp only [w0, w1, w2, w3]
      refine q_skip (dst := some 29) (t := 25) rfl rfl rfl (decide_eq_false hc7) ?_
      refine q_skip (dst := some 30) (t := 25) rfl rfl rfl (decide_eq_false hc7) ?_
      refine q_skip_u (dst := some 31) (t := 30) rfl rfl rfl ?_
      refine q_skip_u (dst := some 32) (t := 30) rfl rfl rfl ?_
      try dsimp only [w0, w1, w2, w3]
      refine q_skip_u (dst := some 33) (t := 30) rfl rfl rfl ?_
      refine q_skip_u (dst := some 34) (t := 30) rfl rfl rfl ?_
      refine q_skip (dst := some 35) (t := 25) rfl rfl rfl (decide_eq_false hc7) ?_
      refine qS 36 rfl (ok_pick_ff · (.tmp rfl) (decide_eq_false hc7) (.bool _)) ?_
      refine hr_region_end ?_
      try dsimp only [w0, w1, w2, w3]
      try dsimp only [w0, w1, w2, w3]
      exact J3_snd ih hrec0 h
def L0 (k : Nat) : Nat → (List UInt8) → (Option HA) → Int → HS → Option (((List UInt8)) × HS)
  | 0, _, _, _, _ => none
  | n + 1, y0, y3, y4, S =>
    (if y4 < (List.length y0 : Int) then
    (Option.bind (sat y0 y4) fun p3 =>
    (if (!decide ((UInt8.toNat p3 : Int) = 42)) = true then
    (Option.bind (sat y0 y4) fun p5 =>
    (Option.bind (strings_Builder_WriteByte.f y3 (UInt8.toNat p5 : Int) S) fun p6 =>
    (L0 k n) y0 y3 (w64 (y4 + 1)) p6.2)) else
    L1 k (L0 k n) k y0 y3 y4 y4 S)) else
    (Option.bind (strings_Builder_String.f y3 S) fun p18 =>
    some (p18.1, p18.2)))
theorem L0_snd {k : Nat}  : ∀ {n : Nat} ⦃y0 : (List UInt8)⦄ ⦃y3 : (Option HA)⦄ ⦃y4 : Int⦄ ⦃S : HS⦄ ⦃p : ((List UInt8)) × HS⦄ ⦃g1 g2 g5 g6 g7 g8 g9 g10 g11 g12 g13 g14 g15 g16 g17 g18 g19 g20 g21 g22 g23 g24 g25 g26 g27 g28 g29 g30 g31 g32 g33 g34 g35 g36 g37 g38 g39 g40 g41 g42 g43 g44 g45 g46 g47 : HV⦄, L0 k n y0 y3 y4 S = some p → HRun Tryd.prog base W0 β0 18 none [.inLoop c9, .inBlock 0, .code c40] ⟨[(.str y0), g1, g2, (.ptr y3), (.int .i64 y4), g5, g6, g7, g8, g9, g10, g11, g12, g13, g14, g15, g16, g17, g18, g19, g20, g21, g22, g23, g24, g25, g26, g27, g28, g29, g30, g31, g32, g33, g34, g35, g36, g37, g38, g39, g40, g41, g42, g43, g44, g45, g46, g47], []⟩ S (fun v S1 => v = (.str p.1) ∧ S1 = p.2) := by
  intro n
  induction n with
  | zero => intro _ _ _ _ _ _ _ _ _ _ _ _ _ _ _ _ _ _ _ _ _ _ _ _ _ _ _ _ _ _ _ _ _ _ _ _ _ _ _ _ _ _ _ _ _ _ _ _ _ _ h; cases h
  | succ n ih =>
    intro y0 y3 y4 S p g1 g2 g5 g6 g7 g8 g9 g10 g11 g12 g13 g14 g15 g16 g17 g18 g19 g20 g21 g22 g23 g24 g25 g26 g27 g28 g29 g30 g31 g32 g33 g34 g35 g36 g37 g38 g39 g40 g41 g42 g43 g44 g45 g46 g47 h
    simp only [L0] at h
    refine hr_inLoop ?_
    refine q_seq rfl ?_
    refine q_seq rfl ?_
    refine q_region rfl rfl ?_
    refine qS 6 rfl (ok_move · (.tmp rfl)) ?_
    refine qS 7 rfl (ok_move · (.tmp rfl)) ?_
    refine qS 8 rfl (ok_len_str · rfl tu9 (.tmp rfl)) ?_
    refine qS 9 rfl (ok_ibin · (.tmp rfl) (.tmp rfl) rfl) ?_
    refine hr_region_end ?_
    try dsimp only [w0, w1, w2, w3]
    rcases ifc h with ⟨hc2, h⟩ | ⟨hc2, h⟩
    · refine q_cond_t rfl (.tmp rfl) (decide_eq_true hc2) ?_
      refine q_skipc rfl ?_
      refine q_block rfl ?_
      refine q_seq rfl ?_
      refine q_seq rfl ?_
      refine q_region rfl rfl ?_
      refine qS 10 rfl (ok_move · (.tmp rfl)) ?_
      refine qS 11 rfl (ok_move · (.tmp rfl)) ?_
      obtain ⟨p3, hp3, h⟩ := bindo h
      refine qS 12 rfl (ok_index_s · tu9 (.tmp rfl) (.tmp rfl) hp3) ?_
      refine qS 13 rfl (ok_ibin · (.tmp rfl) (.int _ _) rfl) ?_
      refine hr_region_end ?_
      try dsimp only [w0, w1, w2, w3]
      rcases ifc h with ⟨hc4, h⟩ | ⟨hc4, h⟩
      · refine q_cond_t rfl (.tmp rfl) hc4 ?_
        refine q_seq rfl ?_
        refine q_region rfl rfl ?_
        refine qS 14 rfl (ok_move · (.tmp rfl)) ?_
        refine qS 15 rfl (ok_move · (.tmp rfl)) ?_
        obtain ⟨p5, hp5, h⟩ := bindo h
        refine qS 16 rfl (ok_index_s · tu9 (.tmp rfl) (.tmp rfl) hp5) ?_
        obtain ⟨p6, hp6, h⟩ := bindo h
        refine q_call (dst := some 17) rfl (.func _) (.cons (.tmp rfl) (.cons (.tmp rfl) Evs.nil)) (HInv.static strings_Builder_WriteByte.at_ strings_Builder_WriteByte.body (strings_Builder_WriteByte.snd  hp6)) ?_
        rintro _ _ ⟨rfl, rfl⟩
        refine hr_region_end ?_
        try dsimp only [w0, w1, w2, w3]
        refine q_seq rfl ?_
        refine q_region rfl rfl ?_
        refine qS 18 rfl (ok_move · (.tmp rfl)) ?_
        refine qS 19 rfl (ok_ibin · (.tmp rfl) (.int _ _) rfl) ?_
        refine qS 4 rfl (ok_assign · (.tmp rfl)) ?_
        refine hr_region_end ?_
        try dsimp only [w0, w1, w2, w3]
        refine q_exit rfl rfl ?_
        try dsimp only [w0, w1, w2, w3]
        exact ih h
      · refine q_cond_f rfl (.tmp rfl) (bfalse hc4) ?_
        refine q_skipc rfl ?_
        refine q_seq rfl ?_
        refine q_region rfl rfl ?_
        refine qS 20 rfl (ok_move · (.tmp rfl)) ?_
        refine qS 5 rfl (ok_assign · (.tmp rfl)) ?_
        refine hr_region_end ?_
        try dsimp only [w0, w1, w2, w3]
        refine q_seq rfl ?_
        refine q_block rfl ?_
        refine q_loop rfl ?_
        try dsimp only [w0, w1, w2, w3]
        exact L1_snd ih h
    · refine q_cond_f rfl (.tmp rfl) (decide_eq_false hc2) ?_
      refine q_exit rfl rfl ?_
      refine q_seq rfl ?_
      refine q_region rfl rfl ?_
      obtain ⟨p18, hp18, h⟩ := bindo h
      refine q_call (dst := some 47) rfl (.func _) (.cons (.tmp rfl) Evs.nil) (HInv.static strings_Builder_String.at_ strings_Builder_String.body (strings_Builder_String.snd  hp18)) ?_
      rintro _ _ ⟨rfl, rfl⟩
      refine qS 2 rfl (ok_assign · (.tmp rfl)) ?_
      refine hr_region_end ?_
      try dsimp only [w0, w1, w2, w3]
      cases h
      exact q_ret rfl at_.at_ rfl (res1 rfl rfl) ⟨rfl, rfl⟩
def f (k : Nat) (x0 : (List UInt8)) (S : HS) : Option (((List UInt8)) × HS) :=
  (letv (HS.newM S (.cells 2 [[(.ptr none), (Sl.hv Sl.nil)]] true) 45) fun p1 =>
  L0 k k x0 (some (HA.cell0 S.next)) 0 p1)
theorem snd {k : Nat} {x0 : (List UInt8)} {S : HS}  {p : ((List UInt8)) × HS} (h : f k x0 S = some p) : HCall Tryd.prog base W0 β0 18 [(.str x0)] S (fun v S1 => v = (.str p.1) ∧ S1 = p.2) := by
  unfold f at h
  refine HCall.of_run at_.at_ body ?_
  show HRun Tryd.prog base W0 β0 18 none [.code c0] ⟨[(.str x0), τ, τ, τ, τ, τ, τ, τ, τ, τ, τ, τ, τ, τ, τ, τ, τ, τ, τ, τ, τ, τ, τ, τ, τ, τ, τ, τ, τ, τ, τ, τ, τ, τ, τ, τ, τ, τ, τ, τ, τ, τ, τ, τ, τ, τ, τ, τ], []⟩ S _
  refine q_seq rfl ?_
  refine q_region rfl rfl ?_
  refine qS 2 rfl (ok_assign · (.str _)) ?_
  refine hr_region_end ?_
  try dsimp only [w0, w1, w2, w3]
  refine q_seq rfl ?_
  refine q_region rfl rfl ?_
  obtain ⟨p1, hp1, h⟩ := leto h
  refine qS 3 rfl (ok_allocT · zi43 zr43 (by decide) rfl hp1) ?_
  refine hr_region_end ?_
  try dsimp only [w0, w1, w2, w3]
  refine q_seq rfl ?_
  refine q_seq rfl ?_
  refine q_region rfl rfl ?_
  refine qS 4 rfl (ok_assign · (.int _ _)) ?_
  refine hr_region_end ?_
  try dsimp only [w0, w1, w2, w3]
  refine q_block rfl ?_
  refine q_loop rfl ?_
  try dsimp only [w0, w1, w2, w3]
  exact L0_snd  h
end
end glob_Short
namespace fold_Byte
theorem at_ : FnAt Tryd.prog 40 Tryd.f40 := ⟨Tryd.func40, by kernel_rfl⟩
noncomputable def d0 := (Tryd.f40.body).getD .skip
noncomputable def r1 := kR (kA d0)
noncomputable def d4 := kA (kA (kB d0))
noncomputable def r5 := kR (kA d4)
noncomputable def r8 := kR (kA (kA (kB d4)))
noncomputable def r11 := kR (kA (kB (kB d4)))
noncomputable def r14 := kR (kA (kA (kB (kB (kB d4)))))
noncomputable def r17 := kR (kA (kB (kB (kB (kB d4)))))
noncomputable def r20 := kR (kA (kA (kB (kB (kB (kB (kB d4)))))))
noncomputable def r24 := kR (kA (kB (kB d0)))
noncomputable def c23 : Code := .seq (.region 7 r24 false) .ret
noncomputable def c12 : Code := .cond (.tmp 12) (.seq (.region 4 r14 false) .ret) (.seq (.region 5 r17 false) (.cond (.tmp 25) (.seq (.region 6 r20 false) .ret) .skip))
noncomputable def c6 : Code := .cond (.tmp 3) (.seq (.region 2 r8 false) .ret) (.seq (.region 3 r11 false) c12)
noncomputable def c0 : Code := .seq (.region 0 r1 false) (.seq (.block 0 (.seq (.region 1 r5 false) c6)) c23)
theorem body : Tryd.f40.body = some c0 := by kernel_rfl
section
variable {base : Nat} {W0 : World} {β0 : Bt}
def J2  (y0 : Int) (y22 : Bool) : Option (Int) :=
  (if y22 = true then
  some (w8 (y0 + 32)) else
  (if y0 = 126 then
  some 94 else
  some y0))
theorem J2_snd   {y0 : Int} {y22 : Bool} {S : HS} {p : Int} {g1 g2 g3 g4 g5 g6 g7 g8 g9 g10 g11 g12 g13 g14 g15 g16 g17 g18 g19 g20 g21 g23 g24 g25 g26 g27 g28 : HV} (h : J2  y0 y22 = some p) : HRun Tryd.prog base W0 β0 40 none [.inRegion r11 [10], .code c12, .inBlock 0, .code c23] ⟨[(.int .u8 y0), g1, g2, g3, g4, g5, g6, g7, g8, g9, g10, g11, g12, g13, g14, g15, g16, g17, g18, g19, g20, g21, (.bool y22), g23, g24, g25, g26, g27, g28], []⟩ S (fun v S1 => v = (.int .u8 p) ∧ S1 = S) := by
  unfold J2 at h
  refine qS 12 rfl (ok_assign · (.tmp rfl)) ?_
  refine hr_region_end ?_
  try dsimp only [w0, w1, w2, w3]
  rcases ifc h with ⟨hc5, h⟩ | ⟨hc5, h⟩
  · refine q_cond_t rfl (.tmp rfl) hc5 ?_
    refine q_seq rfl ?_
    refine q_region rfl rfl ?_
    refine qS 23 rfl (ok_move · (.tmp rfl)) ?_
    refine qS 24 rfl (ok_ibin · (.tmp rfl) (.int _ _) rfl) ?_
    refine qS 2 rfl (ok_assign · (.tmp rfl)) ?_
    refine hr_region_end ?_
    try dsimp only [w0, w1, w2, w3]
    cases h
    exact q_ret rfl at_.at_ rfl (res1 rfl rfl) ⟨rfl, rfl⟩
  · refine q_cond_f rfl (.tmp rfl) (bfalse hc5) ?_
    refine q_seq rfl ?_
    refine q_region rfl rfl ?_
    refine qS 26 rfl (ok_move · (.tmp rfl)) ?_
    refine qS 27 rfl (ok_ibin · (.tmp rfl) (.int _ _) rfl) ?_
    refine qS 25 rfl (ok_assign · (.tmp rfl)) ?_
    refine hr_region_end ?_
    try dsimp only [w0, w1, w2, w3]
    rcases ifc h with ⟨hc6, h⟩ | ⟨hc6, h⟩
    · refine q_cond_t rfl (.tmp rfl) (decide_eq_true hc6) ?_
      refine q_seq rfl ?_
      refine q_region rfl rfl ?_
      refine qS 2 rfl (ok_assign · (.int _ _)) ?_
      refine hr_region_end ?_
      try dsimp only [w0, w1, w2, w3]
      cases h
      exact q_ret rfl at_.at_ rfl (res1 rfl rfl) ⟨rfl, rfl⟩
    · refine q_cond_f rfl (.tmp rfl) (decide_eq_false hc6) ?_
      refine q_skipc rfl ?_
      refine hr_inBlock ?_
      refine q_seq rfl ?_
      refine q_region rfl rfl ?_
      refine qS 28 rfl (ok_move · (.tmp rfl)) ?_
      refine qS 2 rfl (ok_assign · (.tmp rfl)) ?_
      refine hr_region_end ?_
      try dsimp only [w0, w1, w2, w3]
      cases h
      exact q_ret rfl at_.at_ rfl (res1 rfl rfl) ⟨rfl, rfl⟩
def J1  (y0 : Int) (y18 : Bool) : Option (Int) :=
  (if y18 = true then
  J2 y0 true else
  J2 y0 (decide (y0 = 92)))
theorem J1_snd   {y0 : Int} {y18 : Bool} {S : HS} {p : Int} {g1 g2 g3 g4 g5 g6 g7 g8 g9 g10 g11 g12 g13 g14 g15 g16 g17 g19 g20 g21 g22 g23 g24 g25 g26 g27 g28 : HV} (h : J1  y0 y18 = some p) : HRun Tryd.prog base W0 β0 40 none [.inRegion r11 [6, 7, 8, 9, 10], .code c12, .inBlock 0, .code c23] ⟨[(.int .u8 y0), g1, g2, g3, g4, g5, g6, g7, g8, g9, g10, g11, g12, g13, g14, g15, g16, g17, (.bool y18), g19, g20, g21, g22, g23, g24, g25, g26, g27, g28], []⟩ S (fun v S1 => v = (.int .u8 p) ∧ S1 = S) := by
  unfold J1 at h
  refine qS 19 rfl (ok_move · (.tmp rfl)) ?_
  rcases ifc h with ⟨hc4, h⟩ | ⟨hc4, h⟩
  · refine q_skip (dst := some 20) (t := 19) rfl rfl rfl hc4 ?_
    try dsimp only [w0, w1, w2, w3]
    refine q_skip (dst := some 21) (t := 19) rfl rfl rfl hc4 ?_
    refine qS 22 rfl (ok_pick_tt · (.tmp rfl) hc4 (.bool _)) ?_
    try dsimp only [w0, w1, w2, w3]
    exact J2_snd  h
  · refine qG 19 20 rfl (bfalse hc4) (ok_move · (.tmp rfl)) ?_
    try dsimp only [w0, w1, w2, w3]
    refine qG 19 21 rfl (bfalse hc4) (ok_ibin · (.tmp rfl) (.int _ _) rfl) ?_
    refine qS 22 rfl (ok_pick_ff · (.tmp rfl) (bfalse hc4) (.tmp rfl)) ?_
    try dsimp only [w0, w1, w2, w3]
    exact J2_snd  h
def J0  (y0 : Int) (y9 : Bool) : Option (Int) :=
  (if y9 = true then
  some (w8 (y0 + 32)) else
  (if y0 = 91 then
  J1 y0 true else
  J1 y0 (decide (y0 = 93))))
theorem J0_snd   {y0 : Int} {y9 : Bool} {S : HS} {p : Int} {g1 g2 g3 g4 g5 g6 g7 g8 g10 g11 g12 g13 g14 g15 g16 g17 g18 g19 g20 g21 g22 g23 g24 g25 g26 g27 g28 : HV} (h : J0  y0 y9 = some p) : HRun Tryd.prog base W0 β0 40 none [.inRegion r5 [6], .code c6, .inBlock 0, .code c23] ⟨[(.int .u8 y0), g1, g2, g3, g4, g5, g6, g7, g8, (.bool y9), g10, g11, g12, g13, g14, g15, g16, g17, g18, g19, g20, g21, g22, g23, g24, g25, g26, g27, g28], []⟩ S (fun v S1 => v = (.int .u8 p) ∧ S1 = S) := by
  unfold J0 at h
  refine qS 3 rfl (ok_assign · (.tmp rfl)) ?_
  refine hr_region_end ?_
  try dsimp only [w0, w1, w2, w3]
  rcases ifc h with ⟨hc2, h⟩ | ⟨hc2, h⟩
  · refine q_cond_t rfl (.tmp rfl) hc2 ?_
    refine q_seq rfl ?_
    refine q_region rfl rfl ?_
    refine qS 10 rfl (ok_move · (.tmp rfl)) ?_
    refine qS 11 rfl (ok_ibin · (.tmp rfl) (.int _ _) rfl) ?_
    refine qS 2 rfl (ok_assign · (.tmp rfl)) ?_
    refine hr_region_end ?_
    try dsimp only [w0, w1, w2, w3]
    cases h
    exact q_ret rfl at_.at_ rfl (res1 rfl rfl) ⟨rfl, rfl⟩
  · refine q_cond_f rfl (.tmp rfl) (bfalse hc2) ?_
    refine q_seq rfl ?_
    refine q_region rfl rfl ?_
    refine qS 13 rfl (ok_move · (.tmp rfl)) ?_
    refine qS 14 rfl (ok_ibin · (.tmp rfl) (.int _ _) rfl) ?_
    refine qS 15 rfl (ok_move · (.tmp rfl)) ?_
    rcases ifc h with ⟨hc3, h⟩ | ⟨hc3, h⟩
    · refine q_skip (dst := some 16) (t := 15) rfl rfl rfl (decide_eq_true hc3) ?_
      try dsimp only [w0, w1, w2, w3]
      refine q_skip (dst := some 17) (t := 15) rfl rfl rfl (decide_eq_true hc3) ?_
      refine qS 18 rfl (ok_pick_tt · (.tmp rfl) (decide_eq_true hc3) (.bool _)) ?_
      try dsimp only [w0, w1, w2, w3]
      exact J1_snd  h
    · refine qG 15 16 rfl (decide_eq_false hc3) (ok_move · (.tmp rfl)) ?_
      try dsimp only [w0, w1, w2, w3]
      refine qG 15 17 rfl (decide_eq_false hc3) (ok_ibin · (.tmp rfl) (.int _ _) rfl) ?_
      refine qS 18 rfl (ok_pick_ff · (.tmp rfl) (decide_eq_false hc3) (.tmp rfl)) ?_
      try dsimp only [w0, w1, w2, w3]
      exact J1_snd  h
def f (x0 : Int) : Option (Int) :=
  (if x0 ≥ 65 then
  J0 x0 (decide (x0 ≤ 90)) else
  J0 x0 false)
theorem snd {x0 : Int} {S : HS}  {p : Int} (h : f x0 = some p) : HCall Tryd.prog base W0 β0 40 [(.int .u8 x0)] S (fun v S1 => v = (.int .u8 p) ∧ S1 = S) := by
  unfold f at h
  refine HCall.of_run at_.at_ body ?_
  show HRun Tryd.prog base W0 β0 40 none [.code c0] ⟨[(.int .u8 x0), τ, τ, τ, τ, τ, τ, τ, τ, τ, τ, τ, τ, τ, τ, τ, τ, τ, τ, τ, τ, τ, τ, τ, τ, τ, τ, τ, τ], []⟩ S _
  refine q_seq rfl ?_
  refine q_region rfl rfl ?_
  refine qS 2 rfl (ok_assign · (.int _ _)) ?_
  refine hr_region_end ?_
  try dsimp only [w0, w1, w2, w3]
  refine q_seq rfl ?_
  refine q_block rfl ?_
  refine q_seq rfl ?_
  refine q_region rfl rfl ?_
  refine qS 4 rfl (ok_move · (.tmp rfl)) ?_
  refine qS 5 rfl (ok_ibin · (.tmp rfl) (.int _ _) rfl) ?_
  refine qS 6 rfl (ok_move · (.tmp rfl)) ?_
  rcases ifc h with ⟨hc1, h⟩ | ⟨hc1, h⟩
  · refine qG 6 7 rfl (decide_eq_true hc1) (ok_move · (.tmp rfl)) ?_
    try dsimp only [w0, w1, w2, w3]
    refine qG 6 8 rfl (decide_eq_true hc1) (ok_ibin · (.tmp rfl) (.int _ _) rfl) ?_
    refine qS 9 rfl (ok_pick_tt · (.tmp rfl) (decide_eq_true hc1) (.tmp rfl)) ?_
    try dsimp only [w0, w1, w2, w3]
    exact J0_snd  h
  · refine q_skip (dst := some 7) (t := 6) rfl rfl rfl (decide_eq_false hc1) ?_
    try dsimp only [w0, w1, w2, w3]
    refine q_skip (dst := some 8) (t := 6) rfl rfl rfl (decide_eq_false hc1) ?_
    refine qS 9 rfl (ok_pick_ff · (.tmp rfl) (decide_eq_false hc1) (.bool _)) ?_
    try dsimp only [w0, w1, w2, w3]
    exact J0_snd  h
end
end fold_Byte
namespace glob_one
theorem at_ : FnAt Tryd.prog 28 Tryd.f28 := ⟨Tryd.func28, by kernel_rfl⟩
noncomputable def d0 := (Tryd.f28.body).getD .skip
noncomputable def r1 := kR (kA d0)
noncomputable def r3 := kR (kA (kB d0))
noncomputable def c4 : Code := .ret
noncomputable def c0 : Code := .seq (.region 0 r1 false) (.seq (.region 1 r3 false) c4)
theorem body : Tryd.f28.body = some c0 := by kernel_rfl
section
variable {base : Nat} {W0 : World} {β0 : Bt}
def J0  (y17 : Bool) : Option (Bool) :=
  some y17
theorem J0_snd   {y17 : Bool} {S : HS} {p : Bool} {g0 g1 g2 g3 g4 g5 g6 g7 g8 g9 g10 g11 g12 g13 g14 g15 g16 : HV} (h : J0  y17 = some p) : HRun Tryd.prog base W0 β0 28 none [.inRegion r3 [13], .code c4] ⟨[g0, g1, g2, g3, g4, g5, g6, g7, g8, g9, g10, g11, g12, g13, g14, g15, g16, (.bool y17)], []⟩ S (fun v S1 => v = (.bool p) ∧ S1 = S) := by
  unfold J0 at h
  refine qS 4 rfl (ok_assign · (.tmp rfl)) ?_
  refine hr_region_end ?_
  try dsimp only [w0, w1, w2, w3]
  cases h
  exact q_ret rfl at_.at_ rfl (res1 rfl rfl) ⟨rfl, rfl⟩
def J1  (y7 : Bool) (y16 : Bool) : Option (Bool) :=
  (if y7 = true then
  J0 true else
  J0 y16)
theorem J1_snd   {y7 : Bool} {y16 : Bool} {S : HS} {p : Bool} {g0 g1 g2 g3 g4 g5 g6 g8 g9 g10 g11 g12 g13 g14 g15 g17 : HV} (h : J1  y7 y16 = some p) : HRun Tryd.prog base W0 β0 28 none [.inRegion r3 [12, 13], .code c4] ⟨[g0, g1, g2, g3, g4, g5, g6, (.bool y7), g8, g9, g10, g11, g12, g13, g14, g15, (.bool y16), g17], []⟩ S (fun v S1 => v = (.bool p) ∧ S1 = S) := by
  unfold J1 at h
  rcases ifc h with ⟨hc5, h⟩ | ⟨hc5, h⟩
  · refine qS 17 rfl (ok_pick_tt · (.tmp rfl) hc5 (.bool _)) ?_
    try dsimp only [w0, w1, w2, w3]
    exact J0_snd  h
  · refine qS 17 rfl (ok_pick_ff · (.tmp rfl) (bfalse hc5) (.tmp rfl)) ?_
    try dsimp only [w0, w1, w2, w3]
    exact J0_snd  h
def f (x0 : Int) (x1 : Int) : Option (Bool) :=
  (if x0 = 63 then
  J0 true else
  (if (!decide (x0 = 42)) = true then
  (Option.bind (fold_Byte.f x0) fun p3 =>
  (Option.bind (fold_Byte.f x1) fun p4 =>
  J1 (decide (x0 = 63)) (decide (p3 = p4)))) else
  J1 (decide (x0 = 63)) false))
theorem snd {x0 : Int} {x1 : Int} {S : HS}  {p : Bool} (h : f x0 x1 = some p) : HCall Tryd.prog base W0 β0 28 [(.int .u8 x0), (.int .u8 x1)] S (fun v S1 => v = (.bool p) ∧ S1 = S) := by
  unfold f at h
  refine HCall.of_run at_.at_ body ?_
  show HRun Tryd.prog base W0 β0 28 none [.code c0] ⟨[(.int .u8 x0), (.int .u8 x1), τ, τ, τ, τ, τ, τ, τ, τ, τ, τ, τ, τ, τ, τ, τ, τ], []⟩ S _
  refine q_seq rfl ?_
  refine q_region rfl rfl ?_
  refine qS 4 rfl (ok_assign · (.bool _)) ?_
  refine hr_region_end ?_
  try dsimp only [w0, w1, w2, w3]
  refine q_seq rfl ?_
  refine q_region rfl rfl ?_
  refine qS 5 rfl (ok_move · (.tmp rfl)) ?_
  refine qS 6 rfl (ok_ibin · (.tmp rfl) (.int _ _) rfl) ?_
  refine qS 7 rfl (ok_move · (.tmp rfl)) ?_
  rcases ifc h with ⟨hc1, h⟩ | ⟨hc1, h⟩
  · refine q_skip (dst := some 8) (t := 7) rfl rfl rfl (decide_eq_true hc1) ?_
    try dsimp only [w0, w1, w2, w3]
    refine q_skip (dst := some 9) (t := 7) rfl rfl rfl (decide_eq_true hc1) ?_
    refine q_skip (dst := some 10) (t := 7) rfl rfl rfl (decide_eq_true hc1) ?_
    refine q_skip_u (dst := some 11) (t := 10) rfl rfl rfl ?_
    refine q_skip_u (dst := some 12) (t := 10) rfl rfl rfl ?_
    try dsimp only [w0, w1, w2, w3]
    refine q_skip_u (dst := some 13) (t := 10) rfl rfl rfl ?_
    refine q_skip_u (dst := some 14) (t := 10) rfl rfl rfl ?_
    refine q_skip_u (dst := some 15) (t := 10) rfl rfl rfl ?_
    refine q_skip (dst := some 16) (t := 7) rfl rfl rfl (decide_eq_true hc1) ?_
    try dsimp only [w0, w1, w2, w3]
    refine qS 17 rfl (ok_pick_tt · (.tmp rfl) (decide_eq_true hc1) (.bool _)) ?_
    try dsimp only [w0, w1, w2, w3]
    exact J0_snd  h
  · refine qG 7 8 rfl (decide_eq_false hc1) (ok_move · (.tmp rfl)) ?_
    try dsimp only [w0, w1, w2, w3]
    refine qG 7 9 rfl (decide_eq_false hc1) (ok_ibin · (.tmp rfl) (.int _ _) rfl) ?_
    refine qG 7 10 rfl (decide_eq_false hc1) (ok_move · (.tmp rfl)) ?_
    rcases ifc h with ⟨hc2, h⟩ | ⟨hc2, h⟩
    · refine qG 10 11 rfl hc2 (ok_move · (.tmp rfl)) ?_
      obtain ⟨p3, hp3, h⟩ := bindo h
      refine q_call_g (t := 10) (dst := some 12) rfl rfl rfl hc2 (.func _) (.cons (.tmp rfl) Evs.nil) (HInv.static fold_Byte.at_ fold_Byte.body (fold_Byte.snd  hp3)) ?_
      rintro _ _ ⟨rfl, rfl⟩
      try dsimp only [w0, w1, w2, w3]
      refine qG 10 13 rfl hc2 (ok_move · (.tmp rfl)) ?_
      obtain ⟨p4, hp4, h⟩ := bindo h
      refine q_call_g (t := 10) (dst := some 14) rfl rfl rfl hc2 (.func _) (.cons (.tmp rfl) Evs.nil) (HInv.static fold_Byte.at_ fold_Byte.body (fold_Byte.snd  hp4)) ?_
      rintro _ _ ⟨rfl, rfl⟩
      refine qG 10 15 rfl hc2 (ok_ibin · (.tmp rfl) (.tmp rfl) rfl) ?_
      refine qG 7 16 rfl (decide_eq_false hc1) (ok_pick_tt · (.tmp rfl) hc2 (.tmp rfl)) ?_
      try dsimp only [w0, w1, w2, w3]
      try dsimp only [w0, w1, w2, w3]
      exact J1_snd  h
    · refine q_skip (dst := some 11) (t := 10) rfl rfl rfl (bfalse hc2) ?_
      refine q_skip (dst := some 12) (t := 10) rfl rfl rfl (bfalse hc2) ?_
      try dsimp only [w0, w1, w2, w3]
      refine q_skip (dst := some 13) (t := 10) rfl rfl rfl (bfalse hc2) ?_
      refine q_skip (dst := some 14) (t := 10) rfl rfl rfl (bfalse hc2) ?_
      refine q_skip (dst := some 15) (t := 10) rfl rfl rfl (bfalse hc2) ?_
      refine qG 7 16 rfl (decide_eq_false hc1) (ok_pick_ff · (.tmp rfl) (bfalse hc2) (.bool _)) ?_
      try dsimp only [w0, w1, w2, w3]
      try dsimp only [w0, w1, w2, w3]
      exact J1_snd  h
end
end glob_one
namespace strings_trimRightByte
theorem at_ : FnAt Tryd.prog 42 Tryd.f42 := ⟨Tryd.func42, by kernel_rfl⟩
noncomputable def d0 := (Tryd.f42.body).getD .skip
noncomputable def r1 := kR (kA d0)
noncomputable def r7 := kR (kA (kA (kA (kA (kA (kB d0))))))
noncomputable def r12 := kR (kA (kB (kA (kA (kA (kB d0))))))
noncomputable def r14 := kR (kA (kB (kB d0)))
noncomputable def c13 : Code := .seq (.region 3 r14 false) .ret
noncomputable def c11 : Code := .block 1 (.region 2 r12 false)
noncomputable def c8 : Code := .cond (.tmp 16) .skip (.exit 0)
noncomputable def c5 : Code := .seq (.seq (.region 1 r7 false) c8) c11
noncomputable def c0 : Code := .seq (.region 0 r1 false) (.seq (.block 0 (.loop c5)) c13)
theorem body : Tryd.f42.body = some c0 := by kernel_rfl
section
variable {base : Nat} {W0 : World} {β0 : Bt}
def J1 (k : Nat) (rec0 : (List UInt8) → Int → Option ((List UInt8))) (y0 : (List UInt8)) (y1 : Int) (y16 : Bool) : Option ((List UInt8)) :=
  (if y16 = true then
  (if 0 ≤ (0 : Int) ∧ (0 : Int) ≤ (w64 ((List.length y0 : Int) - 1)) ∧ ((w64 ((List.length y0 : Int) - 1)) : Int) ≤ (List.length y0 : Int) then
  rec0 (ssub y0 0 (w64 ((List.length y0 : Int) - 1))) y1 else none) else
  some y0)
theorem J1_snd {k : Nat} {rec0 : (List UInt8) → Int → Option ((List UInt8))} (hrec0 : ∀ ⦃y0 : (List UInt8)⦄ ⦃y1 : Int⦄ ⦃S : HS⦄ ⦃p : (List UInt8)⦄ ⦃g2 g3 g4 g5 g6 g7 g8 g9 g10 g11 g12 g13 g14 g15 g16 g17 g18 g19 g20 g21 g22 : HV⦄, rec0 y0 y1 = some p → HRun Tryd.prog base W0 β0 42 none [.inLoop c5, .inBlock 0, .code c13] ⟨[(.str y0), (.int .u8 y1), g2, g3, g4, g5, g6, g7, g8, g9, g10, g11, g12, g13, g14, g15, g16, g17, g18, g19, g20, g21, g22], []⟩ S (fun v S1 => v = (.str p) ∧ S1 = S)) {y0 : (List UInt8)} {y1 : Int} {y16 : Bool} {S : HS} {p : (List UInt8)} {g2 g3 g4 g5 g6 g7 g8 g9 g10 g11 g12 g13 g14 g15 g17 g18 g19 g20 g21 g22 : HV} (h : J1 k rec0 y0 y1 y16 = some p) : HRun Tryd.prog base W0 β0 42 none [.code c8, .code c11, .inLoop c5, .inBlock 0, .code c13] ⟨[(.str y0), (.int .u8 y1), g2, g3, g4, g5, g6, g7, g8, g9, g10, g11, g12, g13, g14, g15, (.bool y16), g17, g18, g19, g20, g21, g22], []⟩ S (fun v S1 => v = (.str p) ∧ S1 = S) := by
  unfold J1 at h
  rcases ifc h with ⟨hc3, h⟩ | ⟨hc3, h⟩
  · refine q_cond_t rfl (.tmp rfl) hc3 ?_
    refine q_skipc rfl ?_
    refine q_block rfl ?_
    refine q_region rfl rfl ?_
    refine qS 17 rfl (ok_move · (.tmp rfl)) ?_
    refine qS 18 rfl (ok_move · (.tmp rfl)) ?_
    refine qS 19 rfl (ok_len_str · rfl tu9 (.tmp rfl)) ?_
    refine qS 20 rfl (ok_ibin · (.tmp rfl) (.int _ _) rfl) ?_
    try dsimp only [w0, w1, w2, w3]
    obtain ⟨hg4, h⟩ := gd h
    refine qS 21 rfl (ok_slice_str (kl := .i64) (kh := .i64) (l := 0) (h := (w64 ((List.length y0 : Int) - 1))) · tu9 (.tmp rfl) (.inl ⟨rfl, rfl⟩) (.inr ⟨_, rfl, (.tmp rfl)⟩) hg4.1 hg4.2.1 hg4.2.2) ?_
    refine qS 0 rfl (ok_assign · (.tmp rfl)) ?_
    refine hr_region_end ?_
    try dsimp only [w0, w1, w2, w3]
    refine hr_inBlock ?_
    try dsimp only [w0, w1, w2, w3]
    exact hrec0 h
  · refine q_cond_f rfl (.tmp rfl) (bfalse hc3) ?_
    refine q_exit rfl rfl ?_
    refine q_seq rfl ?_
    refine q_region rfl rfl ?_
    refine qS 22 rfl (ok_move · (.tmp rfl)) ?_
    refine qS 4 rfl (ok_assign · (.tmp rfl)) ?_
    refine hr_region_end ?_
    try dsimp only [w0, w1, w2, w3]
    cases h
    exact q_ret rfl at_.at_ rfl (res1 rfl rfl) ⟨rfl, rfl⟩
def L0 (k : Nat) : Nat → (List UInt8) → Int → Option ((List UInt8))
  | 0, _, _ => none
  | n + 1, y0, y1 =>
    (if (List.length y0 : Int) > 0 then
    (Option.bind (sat y0 (w64 ((List.length y0 : Int) - 1))) fun p2 =>
    J1 k (L0 k n) y0 y1 (decide ((UInt8.toNat p2 : Int) = y1))) else
    J1 k (L0 k n) y0 y1 false)
theorem L0_snd {k : Nat}  : ∀ {n : Nat} ⦃y0 : (List UInt8)⦄ ⦃y1 : Int⦄ ⦃S : HS⦄ ⦃p : (List UInt8)⦄ ⦃g2 g3 g4 g5 g6 g7 g8 g9 g10 g11 g12 g13 g14 g15 g16 g17 g18 g19 g20 g21 g22 : HV⦄, L0 k n y0 y1 = some p → HRun Tryd.prog base W0 β0 42 none [.inLoop c5, .inBlock 0, .code c13] ⟨[(.str y0), (.int .u8 y1), g2, g3, g4, g5, g6, g7, g8, g9, g10, g11, g12, g13, g14, g15, g16, g17, g18, g19, g20, g21, g22], []⟩ S (fun v S1 => v = (.str p) ∧ S1 = S) := by
  intro n
  induction n with
  | zero => intro _ _ _ _ _ _ _ _ _ _ _ _ _ _ _ _ _ _ _ _ _ _ _ _ _ h; cases h
  | succ n ih =>
    intro y0 y1 S p g2 g3 g4 g5 g6 g7 g8 g9 g10 g11 g12 g13 g14 g15 g16 g17 g18 g19 g20 g21 g22 h
    simp only [L0] at h
    refine hr_inLoop ?_
    refine q_seq rfl ?_
    refine q_seq rfl ?_
    refine q_region rfl rfl ?_
    refine qS 5 rfl (ok_move · (.tmp rfl)) ?_
    refine qS 6 rfl (ok_len_str · rfl tu9 (.tmp rfl)) ?_
    refine qS 7 rfl (ok_ibin · (.tmp rfl) (.int _ _) rfl) ?_
    refine qS 8 rfl (ok_move · (.tmp rfl)) ?_
    try dsimp only [w0, w1, w2, w3]
    rcases ifc h with ⟨hc1, h⟩ | ⟨hc1, h⟩
    · refine qG 8 9 rfl (decide_eq_true hc1) (ok_move · (.tmp rfl)) ?_
      refine qG 8 10 rfl (decide_eq_true hc1) (ok_move · (.tmp rfl)) ?_
      refine qG 8 11 rfl (decide_eq_true hc1) (ok_len_str · rfl tu9 (.tmp rfl)) ?_
      refine qG 8 12 rfl (decide_eq_true hc1) (ok_ibin · (.tmp rfl) (.int _ _) rfl) ?_
      try dsimp only [w0, w1, w2, w3]
      obtain ⟨p2, hp2, h⟩ := bindo h
      refine qG 8 13 rfl (decide_eq_true hc1) (ok_index_s · tu9 (.tmp rfl) (.tmp rfl) hp2) ?_
      refine qG 8 14 rfl (decide_eq_true hc1) (ok_move · (.tmp rfl)) ?_
      refine qG 8 15 rfl (decide_eq_true hc1) (ok_ibin · (.tmp rfl) (.tmp rfl) rfl) ?_
      refine qS 16 rfl (ok_pick_tt · (.tmp rfl) (decide_eq_true hc1) (.tmp rfl)) ?_
      refine hr_region_end ?_
      try dsimp only [w0, w1, w2, w3]
      try dsimp only [w0, w1, w2, w3]
      exact J1_snd ih h
    · refine q_skip (dst := some 9) (t := 8) rfl rfl rfl (decide_eq_false hc1) ?_
      refine q_skip (dst := some 10) (t := 8) rfl rfl rfl (decide_eq_false hc1) ?_
      refine q_skip (dst := some 11) (t := 8) rfl rfl rfl (decide_eq_false hc1) ?_
      refine q_skip (dst := some 12) (t := 8) rfl rfl rfl (decide_eq_false hc1) ?_
      try dsimp only [w0, w1, w2, w3]
      refine q_skip (dst := some 13) (t := 8) rfl rfl rfl (decide_eq_false hc1) ?_
      refine q_skip (dst := some 14) (t := 8) rfl rfl rfl (decide_eq_false hc1) ?_
      refine q_skip (dst := some 15) (t := 8) rfl rfl rfl (decide_eq_false hc1) ?_
      refine qS 16 rfl (ok_pick_ff · (.tmp rfl) (decide_eq_false hc1) (.bool _)) ?_
      refine hr_region_end ?_
      try dsimp only [w0, w1, w2, w3]
      try dsimp only [w0, w1, w2, w3]
      exact J1_snd ih h
def f (k : Nat) (x0 : (List UInt8)) (x1 : Int) : Option ((List UInt8)) :=
  L0 k k x0 x1
theorem snd {k : Nat} {x0 : (List UInt8)} {x1 : Int} {S : HS}  {p : (List UInt8)} (h : f k x0 x1 = some p) : HCall Tryd.prog base W0 β0 42 [(.str x0), (.int .u8 x1)] S (fun v S1 => v = (.str p) ∧ S1 = S) := by
  unfold f at h
  refine HCall.of_run at_.at_ body ?_
  show HRun Tryd.prog base W0 β0 42 none [.code c0] ⟨[(.str x0), (.int .u8 x1), τ, τ, τ, τ, τ, τ, τ, τ, τ, τ, τ, τ, τ, τ, τ, τ, τ, τ, τ, τ, τ], []⟩ S _
  refine q_seq rfl ?_
  refine q_region rfl rfl ?_
  refine qS 4 rfl (ok_assign · (.str _)) ?_
  refine hr_region_end ?_
  try dsimp only [w0, w1, w2, w3]
  refine q_seq rfl ?_
  refine q_block rfl ?_
  refine q_loop rfl ?_
  try dsimp only [w0, w1, w2, w3]
  exact L0_snd  h
end
end strings_trimRightByte
namespace strings_trimLeftByte
theorem at_ : FnAt Tryd.prog 41 Tryd.f41 := ⟨Tryd.func41, by kernel_rfl⟩
noncomputable def d0 := (Tryd.f41.body).getD .skip
noncomputable def r1 := kR (kA d0)
noncomputable def r7 := kR (kA (kA (kA (kA (kA (kB d0))))))
noncomputable def r12 := kR (kA (kB (kA (kA (kA (kB d0))))))
noncomputable def r14 := kR (kA (kB (kB d0)))
noncomputable def c13 : Code := .seq (.region 3 r14 false) .ret
noncomputable def c11 : Code := .block 1 (.region 2 r12 false)
noncomputable def c8 : Code := .cond (.tmp 13) .skip (.exit 0)
noncomputable def c5 : Code := .seq (.seq (.region 1 r7 false) c8) c11
noncomputable def c0 : Code := .seq (.region 0 r1 false) (.seq (.block 0 (.loop c5)) c13)
theorem body : Tryd.f41.body = some c0 := by kernel_rfl
section
variable {base : Nat} {W0 : World} {β0 : Bt}
def J1 (k : Nat) (rec0 : (List UInt8) → Int → Option ((List UInt8))) (y0 : (List UInt8)) (y1 : Int) (y13 : Bool) : Option ((List UInt8)) :=
  (if y13 = true then
  (if 0 ≤ (1 : Int) ∧ (1 : Int) ≤ (List.length y0 : Int) ∧ ((List.length y0 : Int) : Int) ≤ (List.length y0 : Int) then
  rec0 (ssub y0 1 (List.length y0 : Int)) y1 else none) else
  some y0)
theorem J1_snd {k : Nat} {rec0 : (List UInt8) → Int → Option ((List UInt8))} (hrec0 : ∀ ⦃y0 : (List UInt8)⦄ ⦃y1 : Int⦄ ⦃S : HS⦄ ⦃p : (List UInt8)⦄ ⦃g2 g3 g4 g5 g6 g7 g8 g9 g10 g11 g12 g13 g14 g15 g16 : HV⦄, rec0 y0 y1 = some p → HRun Tryd.prog base W0 β0 41 none [.inLoop c5, .inBlock 0, .code c13] ⟨[(.str y0), (.int .u8 y1), g2, g3, g4, g5, g6, g7, g8, g9, g10, g11, g12, g13, g14, g15, g16], []⟩ S (fun v S1 => v = (.str p) ∧ S1 = S)) {y0 : (List UInt8)} {y1 : Int} {y13 : Bool} {S : HS} {p : (List UInt8)} {g2 g3 g4 g5 g6 g7 g8 g9 g10 g11 g12 g14 g15 g16 : HV} (h : J1 k rec0 y0 y1 y13 = some p) : HRun Tryd.prog base W0 β0 41 none [.code c8, .code c11, .inLoop c5, .inBlock 0, .code c13] ⟨[(.str y0), (.int .u8 y1), g2, g3, g4, g5, g6, g7, g8, g9, g10, g11, g12, (.bool y13), g14, g15, g16], []⟩ S (fun v S1 => v = (.str p) ∧ S1 = S) := by
  unfold J1 at h
  rcases ifc h with ⟨hc3, h⟩ | ⟨hc3, h⟩
  · refine q_cond_t rfl (.tmp rfl) hc3 ?_
    refine q_skipc rfl ?_
    refine q_block rfl ?_
    refine q_region rfl rfl ?_
    refine qS 14 rfl (ok_move · (.tmp rfl)) ?_
    obtain ⟨hg4, h⟩ := gd h
    refine qS 15 rfl (ok_slice_str (kl := .i64) (kh := .i64) (l := 1) (h := (List.length y0 : Int)) · tu9 (.tmp rfl) (.inr ⟨_, rfl, (.int _ _)⟩) (.inl ⟨rfl, rfl⟩) hg4.1 hg4.2.1 hg4.2.2) ?_
    refine qS 0 rfl (ok_assign · (.tmp rfl)) ?_
    refine hr_region_end ?_
    try dsimp only [w0, w1, w2, w3]
    refine hr_inBlock ?_
    try dsimp only [w0, w1, w2, w3]
    exact hrec0 h
  · refine q_cond_f rfl (.tmp rfl) (bfalse hc3) ?_
    refine q_exit rfl rfl ?_
    refine q_seq rfl ?_
    refine q_region rfl rfl ?_
    refine qS 16 rfl (ok_move · (.tmp rfl)) ?_
    refine qS 4 rfl (ok_assign · (.tmp rfl)) ?_
    refine hr_region_end ?_
    try dsimp only [w0, w1, w2, w3]
    cases h
    exact q_ret rfl at_.at_ rfl (res1 rfl rfl) ⟨rfl, rfl⟩
def L0 (k : Nat) : Nat → (List UInt8) → Int → Option ((List UInt8))
  | 0, _, _ => none
  | n + 1, y0, y1 =>
    (if (List.length y0 : Int) > 0 then
    (Option.bind (sat y0 0) fun p2 =>
    J1 k (L0 k n) y0 y1 (decide ((UInt8.toNat p2 : Int) = y1))) else
    J1 k (L0 k n) y0 y1 false)
theorem L0_snd {k : Nat}  : ∀ {n : Nat} ⦃y0 : (List UInt8)⦄ ⦃y1 : Int⦄ ⦃S : HS⦄ ⦃p : (List UInt8)⦄ ⦃g2 g3 g4 g5 g6 g7 g8 g9 g10 g11 g12 g13 g14 g15 g16 : HV⦄, L0 k n y0 y1 = some p → HRun Tryd.prog base W0 β0 41 none [.inLoop c5, .inBlock 0, .code c13] ⟨[(.str y0), (.int .u8 y1), g2, g3, g4, g5, g6, g7, g8, g9, g10, g11, g12, g13, g14, g15, g16], []⟩ S (fun v S1 => v = (.str p) ∧ S1 = S) := by
  intro n
  induction n with
  | zero => intro _ _ _ _ _ _ _ _ _ _ _ _ _ _ _ _ _ _ _ h; cases h
  | succ n ih =>
    intro y0 y1 S p g2 g3 g4 g5 g6 g7 g8 g9 g10 g11 g12 g13 g14 g15 g16 h
    simp only [L0] at h
    refine hr_inLoop ?_
    refine q_seq rfl ?_
    refine q_seq rfl ?_
    refine q_region rfl rfl ?_
    refine qS 5 rfl (ok_move · (.tmp rfl)) ?_
    refine qS 6 rfl (ok_len_str · rfl tu9 (.tmp rfl)) ?_
    refine qS 7 rfl (ok_ibin · (.tmp rfl) (.int _ _) rfl) ?_
    refine qS 8 rfl (ok_move · (.tmp rfl)) ?_
    try dsimp only [w0, w1, w2, w3]
    rcases ifc h with ⟨hc1, h⟩ | ⟨hc1, h⟩
    · refine qG 8 9 rfl (decide_eq_true hc1) (ok_move · (.tmp rfl)) ?_
      obtain ⟨p2, hp2, h⟩ := bindo h
      refine qG 8 10 rfl (decide_eq_true hc1) (ok_index_s · tu9 (.tmp rfl) (.int _ _) hp2) ?_
      refine qG 8 11 rfl (decide_eq_true hc1) (ok_move · (.tmp rfl)) ?_
      refine qG 8 12 rfl (decide_eq_true hc1) (ok_ibin · (.tmp rfl) (.tmp rfl) rfl) ?_
      try dsimp only [w0, w1, w2, w3]
      refine qS 13 rfl (ok_pick_tt · (.tmp rfl) (decide_eq_true hc1) (.tmp rfl)) ?_
      refine hr_region_end ?_
      try dsimp only [w0, w1, w2, w3]
      try dsimp only [w0, w1, w2, w3]
      exact J1_snd ih h
    · refine q_skip (dst := some 9) (t := 8) rfl rfl rfl (decide_eq_false hc1) ?_
      refine q_skip (dst := some 10) (t := 8) rfl rfl rfl (decide_eq_false hc1) ?_
      refine q_skip (dst := some 11) (t := 8) rfl rfl rfl (decide_eq_false hc1) ?_
      refine q_skip (dst := some 12) (t := 8) rfl rfl rfl (decide_eq_false hc1) ?_
      try dsimp only [w0, w1, w2, w3]
      refine qS 13 rfl (ok_pick_ff · (.tmp rfl) (decide_eq_false hc1) (.bool _)) ?_
      refine hr_region_end ?_
      try dsimp only [w0, w1, w2, w3]
      try dsimp only [w0, w1, w2, w3]
      exact J1_snd ih h
def f (k : Nat) (x0 : (List UInt8)) (x1 : Int) : Option ((List UInt8)) :=
  L0 k k x0 x1
theorem snd {k : Nat} {x0 : (List UInt8)} {x1 : Int} {S : HS}  {p : (List UInt8)} (h : f k x0 x1 = some p) : HCall Tryd.prog base W0 β0 41 [(.str x0), (.int .u8 x1)] S (fun v S1 => v = (.str p) ∧ S1 = S) := by
  unfold f at h
  refine HCall.of_run at_.at_ body ?_
  show HRun Tryd.prog base W0 β0 41 none [.code c0] ⟨[(.str x0), (.int .u8 x1), τ, τ, τ, τ, τ, τ, τ, τ, τ, τ, τ, τ, τ, τ, τ], []⟩ S _
  refine q_seq rfl ?_
  refine q_region rfl rfl ?_
  refine qS 4 rfl (ok_assign · (.str _)) ?_
  refine hr_region_end ?_
  try dsimp only [w0, w1, w2, w3]
  refine q_seq rfl ?_
  refine q_block rfl ?_
  refine q_loop rfl ?_
  try dsimp only [w0, w1, w2, w3]
  exact L0_snd  h
end
end strings_trimLeftByte
namespace strings_makeASCIISet
theorem at_ : FnAt Tryd.prog 43 Tryd.f43 := ⟨Tryd.func43, by kernel_rfl⟩
noncomputable def d0 := (Tryd.f43.body).getD .skip
noncomputable def r1 := kR (kA d0)
noncomputable def r4 := kR (kA (kA (kB d0)))
noncomputable def d5 := kB (kA (kB d0))
noncomputable def r9 := kR (kA (kA (kA (kA d5))))
noncomputable def d13 := kB (kA (kA d5))
noncomputable def r16 := kR (kA (kA (kA d13)))
noncomputable def r19 := kR (kA (kA (kB (kA (kA d13)))))
noncomputable def r22 := kR (kA (kA (kB (kA (kB (kA (kA d13)))))))
noncomputable def r25 := kR (kB (kB (kA (kA d13))))
noncomputable def r26 := kR (kB d13)
noncomputable def r28 := kR (kA (kB (kB d0)))
noncomputable def c27 : Code := .seq (.region 8 r28 false) .ret
noncomputable def c7 : Code := .seq (.seq (.region 2 r9 false) (.cond (.tmp 9) .skip (.exit 0))) (.seq (.block 1 (.seq (.region 4 r16 false) (.seq (.seq (.region 5 r19 false) (.cond (.tmp 16) (.seq (.region 6 r22 false) .ret) .skip)) (.region 7 r25 false)))) (.region 3 r26 false))
noncomputable def c0 : Code := .seq (.region 0 r1 false) (.seq (.seq (.region 1 r4 false) (.block 0 (.loop c7))) c27)
theorem body : Tryd.f43.body = some c0 := by kernel_rfl
section
variable {base : Nat} {W0 : World} {β0 : Bt}
def L0 (k : Nat) : Nat → (List UInt8) → (Option HA) → Int → HS → Option (((List HV) × Bool) × HS)
  | 0, _, _, _, _ => none
  | n + 1, y0, y2, y4, S =>
    (if y4 < (List.length y0 : Int) then
    (Option.bind (sat y0 y4) fun p3 =>
    (if (UInt8.toNat p3 : Int) ≥ 128 then
    (Option.bind (y2) fun p5 =>
    (Option.bind (HS.gets S p5 256) fun p6 =>
    (Option.bind (y2) fun p7 =>
    (if List.length p6 = 256 ∧ List.all p6 HV.flat = true then
    (Option.bind (HS.sets S p7 p6) fun p9 =>
    (Option.bind (y2) fun p10 =>
    (Option.bind (HS.gets p9 p10 256) fun p11 =>
    some ((p11, false), p9)))) else none)))) else
    (Option.bind (y2) fun p12 =>
    (if 0 ≤ ((UInt8.toNat p3 : Int) : Int) ∧ ((UInt8.toNat p3 : Int) : Int) < 256 then
    (Option.bind (HS.sets S (HA.fld p12 (Int.toNat (UInt8.toNat p3 : Int))) [(.bool true)]) fun p14 =>
    (L0 k n) y0 y2 (w64 (y4 + 1)) p14) else none)))) else
    (Option.bind (y2) fun p15 =>
    (Option.bind (HS.gets S p15 256) fun p16 =>
    (Option.bind (y2) fun p17 =>
    (if List.length p16 = 256 ∧ List.all p16 HV.flat = true then
    (Option.bind (HS.sets S p17 p16) fun p19 =>
    (Option.bind (y2) fun p20 =>
    (Option.bind (HS.gets p19 p20 256) fun p21 =>
    some ((p21, true), p19)))) else none)))))
theorem L0_snd {k : Nat}  : ∀ {n : Nat} ⦃y0 : (List UInt8)⦄ ⦃y2 : (Option HA)⦄ ⦃y4 : Int⦄ ⦃S : HS⦄ ⦃p : ((List HV) × Bool) × HS⦄ ⦃g1 g3 g5 g6 g7 g8 g9 g10 g11 g12 g13 g14 g15 g16 g17 g18 g19 g20 : HV⦄, L0 k n y0 y2 y4 S = some p → HRun Tryd.prog base W0 β0 43 none [.inLoop c7, .inBlock 0, .code c27] ⟨[(.str y0), g1, (.ptr y2), g3, (.int .i64 y4), g5, g6, g7, g8, g9, g10, g11, g12, g13, g14, g15, g16, g17, g18, g19, g20], []⟩ S (fun v S1 => v = (.tup [(.agg p.1.1), (.bool p.1.2)]) ∧ S1 = p.2) := by
  intro n
  induction n with
  | zero => intro _ _ _ _ _ _ _ _ _ _ _ _ _ _ _ _ _ _ _ _ _ _ _ h; cases h
  | succ n ih =>
    intro y0 y2 y4 S p g1 g3 g5 g6 g7 g8 g9 g10 g11 g12 g13 g14 g15 g16 g17 g18 g19 g20 h
    simp only [L0] at h
    refine hr_inLoop ?_
    refine q_seq rfl ?_
    refine q_seq rfl ?_
    refine q_region rfl rfl ?_
    refine qS 6 rfl (ok_move · (.tmp rfl)) ?_
    refine qS 7 rfl (ok_move · (.tmp rfl)) ?_
    refine qS 8 rfl (ok_len_str · rfl tu9 (.tmp rfl)) ?_
    refine qS 9 rfl (ok_ibin · (.tmp rfl) (.tmp rfl) rfl) ?_
    refine hr_region_end ?_
    try dsimp only [w0, w1, w2, w3]
    rcases ifc h with ⟨hc2, h⟩ | ⟨hc2, h⟩
    · refine q_cond_t rfl (.tmp rfl) (decide_eq_true hc2) ?_
      refine q_skipc rfl ?_
      refine q_seq rfl ?_
      refine q_block rfl ?_
      refine q_seq rfl ?_
      refine q_region rfl rfl ?_
      refine qS 12 rfl (ok_move · (.tmp rfl)) ?_
      refine qS 13 rfl (ok_move · (.tmp rfl)) ?_
      obtain ⟨p3, hp3, h⟩ := bindo h
      refine qS 14 rfl (ok_index_s · tu9 (.tmp rfl) (.tmp rfl) hp3) ?_
      refine qS 5 rfl (ok_assign · (.tmp rfl)) ?_
      refine hr_region_end ?_
      try dsimp only [w0, w1, w2, w3]
      refine q_seq rfl ?_
      refine q_seq rfl ?_
      refine q_region rfl rfl ?_
      refine qS 15 rfl (ok_move · (.tmp rfl)) ?_
      refine qS 16 rfl (ok_ibin · (.tmp rfl) (.int _ _) rfl) ?_
      refine hr_region_end ?_
      try dsimp only [w0, w1, w2, w3]
      rcases ifc h with ⟨hc4, h⟩ | ⟨hc4, h⟩
      · refine q_cond_t rfl (.tmp rfl) (decide_eq_true hc4) ?_
        refine q_seq rfl ?_
        refine q_region rfl rfl ?_
        obtain ⟨p5, hp5, h⟩ := bindo h
        obtain ⟨p6, hp6, h⟩ := bindo h
        refine qS 17 rfl (ok_load_arr · ia54 (.tmp rfl) hp5 hp6) ?_
        obtain ⟨p7, hp7, h⟩ := bindo h
        obtain ⟨hg8, h⟩ := gd h
        obtain ⟨p9, hp9, h⟩ := bindo h
        refine qN rfl (ok_store_arr · sz54 (.tmp rfl) hp7 (.tmp rfl) hg8 hp9) ?_
        refine qS 3 rfl (ok_assign · (.bool _)) ?_
        refine hr_region_end ?_
        try dsimp only [w0, w1, w2, w3]
        obtain ⟨p10, hp10, h⟩ := bindo h
        obtain ⟨p11, hp11, h⟩ := bindo h
        cases h
        exact q_ret rfl at_.at_ rfl (resL (rs := [.cell 2 54, .tmp 3]) rfl (.cons (ResAt.arr rfl hp10 ia54 (by decide) hp11) (.cons (.tmp rfl) .nil)) (by simp)) ⟨rfl, rfl⟩
      · refine q_cond_f rfl (.tmp rfl) (decide_eq_false hc4) ?_
        refine q_skipc rfl ?_
        refine q_region rfl rfl ?_
        refine qS 18 rfl (ok_move · (.tmp rfl)) ?_
        obtain ⟨p12, hp12, h⟩ := bindo h
        obtain ⟨hg13, h⟩ := gd h
        refine qS 19 rfl (ok_indexAddr_arr · ta54 sz4 (.tmp rfl) hp12 (.tmp rfl) hg13) ?_
        obtain ⟨p14, hp14, h⟩ := bindo h
        refine qN rfl (ok_store_s (v := (.bool true)) · sz4 (.tmp rfl) rfl (.bool _) rfl hp14) ?_
        refine hr_region_end ?_
        try dsimp only [w0, w1, w2, w3]
        refine hr_inBlock ?_
        refine q_region rfl rfl ?_
        refine qS 10 rfl (ok_move · (.tmp rfl)) ?_
        refine qS 11 rfl (ok_ibin · (.tmp rfl) (.int _ _) rfl) ?_
        refine qS 4 rfl (ok_assign · (.tmp rfl)) ?_
        refine hr_region_end ?_
        try dsimp only [w0, w1, w2, w3]
        try dsimp only [w0, w1, w2, w3]
        exact ih h
    · refine q_cond_f rfl (.tmp rfl) (decide_eq_false hc2) ?_
      refine q_exit rfl rfl ?_
      refine q_seq rfl ?_
      refine q_region rfl rfl ?_
      obtain ⟨p15, hp15, h⟩ := bindo h
      obtain ⟨p16, hp16, h⟩ := bindo h
      refine qS 20 rfl (ok_load_arr · ia54 (.tmp rfl) hp15 hp16) ?_
      obtain ⟨p17, hp17, h⟩ := bindo h
      obtain ⟨hg18, h⟩ := gd h
      obtain ⟨p19, hp19, h⟩ := bindo h
      refine qN rfl (ok_store_arr · sz54 (.tmp rfl) hp17 (.tmp rfl) hg18 hp19) ?_
      refine qS 3 rfl (ok_assign · (.bool _)) ?_
      refine hr_region_end ?_
      try dsimp only [w0, w1, w2, w3]
      obtain ⟨p20, hp20, h⟩ := bindo h
      obtain ⟨p21, hp21, h⟩ := bindo h
      cases h
      exact q_ret rfl at_.at_ rfl (resL (rs := [.cell 2 54, .tmp 3]) rfl (.cons (ResAt.arr rfl hp20 ia54 (by decide) hp21) (.cons (.tmp rfl) .nil)) (by simp)) ⟨rfl, rfl⟩
def f (k : Nat) (x0 : (List UInt8)) (S : HS) : Option (((List HV) × Bool) × HS) :=
  (letv (HS.new S (.cells 256 [List.replicate 256 (.bool false)] true)) fun p1 =>
  L0 k k x0 (some (HA.cell0 S.next)) 0 p1)
theorem snd {k : Nat} {x0 : (List UInt8)} {S : HS}  {p : ((List HV) × Bool) × HS} (h : f k x0 S = some p) : HCall Tryd.prog base W0 β0 43 [(.str x0)] S (fun v S1 => v = (.tup [(.agg p.1.1), (.bool p.1.2)]) ∧ S1 = p.2) := by
  unfold f at h
  refine HCall.of_run at_.at_ body ?_
  show HRun Tryd.prog base W0 β0 43 none [.code c0] ⟨[(.str x0), τ, τ, τ, τ, τ, τ, τ, τ, τ, τ, τ, τ, τ, τ, τ, τ, τ, τ, τ, τ], []⟩ S _
  refine q_seq rfl ?_
  refine q_region rfl rfl ?_
  obtain ⟨p1, hp1, h⟩ := leto h
  refine qS 2 rfl (ok_alloc_arr · za54 (fun β => .bool _) (by decide) rfl hp1) ?_
  refine qS 3 rfl (ok_assign · (.bool _)) ?_
  refine hr_region_end ?_
  try dsimp only [w0, w1, w2, w3]
  refine q_seq rfl ?_
  refine q_seq rfl ?_
  refine q_region rfl rfl ?_
  refine qS 4 rfl (ok_assign · (.int _ _)) ?_
  refine hr_region_end ?_
  try dsimp only [w0, w1, w2, w3]
  refine q_block rfl ?_
  refine q_loop rfl ?_
  try dsimp only [w0, w1, w2, w3]
  exact L0_snd  h
end
end strings_makeASCIISet
namespace strings_asciiSet_contains
theorem at_ : FnAt Tryd.prog 59 Tryd.f59 := ⟨Tryd.func59, by kernel_rfl⟩
noncomputable def d0 := (Tryd.f59.body).getD .skip
noncomputable def r1 := kR (kA d0)
noncomputable def r3 := kR (kA (kB d0))
noncomputable def c0 : Code := .seq (.region 0 r1 false) (.seq (.region 1 r3 false) .ret)
theorem body : Tryd.f59.body = some c0 := by kernel_rfl
section
variable {base : Nat} {W0 : World} {β0 : Bt}
def f (x0 : (Option HA)) (x1 : Int) (S : HS) : Option ((Bool) × HS) :=
  (Option.bind (x0) fun p1 =>
  (if 0 ≤ (x1 : Int) ∧ (x1 : Int) < 256 then
  (Option.bind (HS.ldB S (HA.fld p1 (Int.toNat x1))) fun p3 =>
  some (p3, S)) else none))
theorem snd {x0 : (Option HA)} {x1 : Int} {S : HS}  {p : (Bool) × HS} (h : f x0 x1 S = some p) : HCall Tryd.prog base W0 β0 59 [(.ptr x0), (.int .u8 x1)] S (fun v S1 => v = (.bool p.1) ∧ S1 = p.2) := by
  unfold f at h
  refine HCall.of_run at_.at_ body ?_
  show HRun Tryd.prog base W0 β0 59 none [.code c0] ⟨[(.ptr x0), (.int .u8 x1), τ, τ, τ, τ, τ, τ, τ, τ], []⟩ S _
  refine q_seq rfl ?_
  refine q_region rfl rfl ?_
  refine qS 4 rfl (ok_assign · (.bool _)) ?_
  refine hr_region_end ?_
  try dsimp only [w0, w1, w2, w3]
  refine q_seq rfl ?_
  refine q_region rfl rfl ?_
  refine qS 5 rfl (ok_move · (.tmp rfl)) ?_
  refine qS 6 rfl (ok_move · (.tmp rfl)) ?_
  obtain ⟨p1, hp1, h⟩ := bindo h
  refine qS 7 rfl (ok_nilCheck_p · (.tmp rfl) hp1) ?_
  obtain ⟨hg2, h⟩ := gd h
  refine qS 8 rfl (ok_indexAddr_arr · ta54 sz4 (.tmp rfl) rfl (.tmp rfl) hg2) ?_
  try dsimp only [w0, w1, w2, w3]
  obtain ⟨p3, hp3, h⟩ := bindo h
  refine qS 9 rfl (ok_load_s · sc4 (.tmp rfl) rfl (ldB_out hp3)) ?_
  refine qS 4 rfl (ok_assign · (.tmp rfl)) ?_
  refine hr_region_end ?_
  try dsimp only [w0, w1, w2, w3]
  cases h
  exact q_ret rfl at_.at_ rfl (res1 rfl rfl) ⟨rfl, rfl⟩
end
end strings_asciiSet_contains
namespace strings_trimRightASCII
theorem at_ : FnAt Tryd.prog 45 Tryd.f45 := ⟨Tryd.func45, by kernel_rfl⟩
noncomputable def d0 := (Tryd.f45.body).getD .skip
noncomputable def r1 := kR (kA d0)
noncomputable def r7 := kR (kA (kA (kA (kA (kA (kB d0))))))
noncomputable def d11 := kB (kA (kA (kA (kB d0))))
noncomputable def r14 := kR (kA (kA (kA d11)))
noncomputable def r18 := kR (kB (kA d11))
noncomputable def r20 := kR (kA (kB (kB d0)))
noncomputable def c19 : Code := .seq (.region 4 r20 false) .ret
noncomputable def c5 : Code := .seq (.seq (.region 1 r7 false) (.cond (.tmp 7) .skip (.exit 0))) (.block 1 (.seq (.seq (.region 2 r14 false) (.cond (.tmp 15) (.exit 0) .skip)) (.region 3 r18 false)))
noncomputable def c0 : Code := .seq (.region 0 r1 false) (.seq (.block 0 (.loop c5)) c19)
theorem body : Tryd.f45.body = some c0 := by kernel_rfl
section
variable {base : Nat} {W0 : World} {β0 : Bt}
def J1 (k : Nat) (y0 : (List UInt8)) (S : HS) : Option (((List UInt8)) × HS) :=
  some (y0, S)
theorem J1_snd {k : Nat}  {y0 : (List UInt8)} {S : HS} {p : ((List UInt8)) × HS} {g1 g2 g3 g4 g5 g6 g7 g8 g9 g10 g11 g12 g13 g14 g15 g16 g17 g18 g19 g20 g21 : HV} (h : J1 k y0 S = some p) : HRun Tryd.prog base W0 β0 45 none [.code c19] ⟨[(.str y0), g1, g2, g3, g4, g5, g6, g7, g8, g9, g10, g11, g12, g13, g14, g15, g16, g17, g18, g19, g20, g21], []⟩ S (fun v S1 => v = (.str p.1) ∧ S1 = p.2) := by
  unfold J1 at h
  refine q_seq rfl ?_
  refine q_region rfl rfl ?_
  refine qS 21 rfl (ok_move · (.tmp rfl)) ?_
  refine qS 4 rfl (ok_assign · (.tmp rfl)) ?_
  refine hr_region_end ?_
  try dsimp only [w0, w1, w2, w3]
  cases h
  exact q_ret rfl at_.at_ rfl (res1 rfl rfl) ⟨rfl, rfl⟩
def L0 (k : Nat) : Nat → (List UInt8) → (Option HA) → HS → Option (((List UInt8)) × HS)
  | 0, _, _, _ => none
  | n + 1, y0, y1, S =>
    (if (List.length y0 : Int) > 0 then
    (Option.bind (sat y0 (w64 ((List.length y0 : Int) - 1))) fun p2 =>
    (Option.bind (strings_asciiSet_contains.f y1 (UInt8.toNat p2 : Int) S) fun p3 =>
    (if (!p3.1) = true then
    J1 k y0 p3.2 else
    (if 0 ≤ (0 : Int) ∧ (0 : Int) ≤ (w64 ((List.length y0 : Int) - 1)) ∧ ((w64 ((List.length y0 : Int) - 1)) : Int) ≤ (List.length y0 : Int) then
    (L0 k n) (ssub y0 0 (w64 ((List.length y0 : Int) - 1))) y1 p3.2 else none)))) else
    J1 k y0 S)
theorem L0_snd {k : Nat}  : ∀ {n : Nat} ⦃y0 : (List UInt8)⦄ ⦃y1 : (Option HA)⦄ ⦃S : HS⦄ ⦃p : ((List UInt8)) × HS⦄ ⦃g2 g3 g4 g5 g6 g7 g8 g9 g10 g11 g12 g13 g14 g15 g16 g17 g18 g19 g20 g21 : HV⦄, L0 k n y0 y1 S = some p → HRun Tryd.prog base W0 β0 45 none [.inLoop c5, .inBlock 0, .code c19] ⟨[(.str y0), (.ptr y1), g2, g3, g4, g5, g6, g7, g8, g9, g10, g11, g12, g13, g14, g15, g16, g17, g18, g19, g20, g21], []⟩ S (fun v S1 => v = (.str p.1) ∧ S1 = p.2) := by
  intro n
  induction n with
  | zero => intro _ _ _ _ _ _ _ _ _ _ _ _ _ _ _ _ _ _ _ _ _ _ _ _ h; cases h
  | succ n ih =>
    intro y0 y1 S p g2 g3 g4 g5 g6 g7 g8 g9 g10 g11 g12 g13 g14 g15 g16 g17 g18 g19 g20 g21 h
    simp only [L0] at h
    refine hr_inLoop ?_
    refine q_seq rfl ?_
    refine q_seq rfl ?_
    refine q_region rfl rfl ?_
    refine qS 5 rfl (ok_move · (.tmp rfl)) ?_
    refine qS 6 rfl (ok_len_str · rfl tu9 (.tmp rfl)) ?_
    refine qS 7 rfl (ok_ibin · (.tmp rfl) (.int _ _) rfl) ?_
    refine hr_region_end ?_
    try dsimp only [w0, w1, w2, w3]
    rcases ifc h with ⟨hc1, h⟩ | ⟨hc1, h⟩
    · refine q_cond_t rfl (.tmp rfl) (decide_eq_true hc1) ?_
      refine q_skipc rfl ?_
      refine q_block rfl ?_
      refine q_seq rfl ?_
      refine q_seq rfl ?_
      refine q_region rfl rfl ?_
      refine qS 8 rfl (ok_move · (.tmp rfl)) ?_
      refine qS 9 rfl (ok_move · (.tmp rfl)) ?_
      refine qS 10 rfl (ok_move · (.tmp rfl)) ?_
      refine qS 11 rfl (ok_len_str · rfl tu9 (.tmp rfl)) ?_
      try dsimp only [w0, w1, w2, w3]
      refine qS 12 rfl (ok_ibin · (.tmp rfl) (.int _ _) rfl) ?_
      obtain ⟨p2, hp2, h⟩ := bindo h
      refine qS 13 rfl (ok_index_s · tu9 (.tmp rfl) (.tmp rfl) hp2) ?_
      obtain ⟨p3, hp3, h⟩ := bindo h
      refine q_call (dst := some 14) rfl (.func _) (.cons (.tmp rfl) (.cons (.tmp rfl) Evs.nil)) (HInv.static strings_asciiSet_contains.at_ strings_asciiSet_contains.body (strings_asciiSet_contains.snd  hp3)) ?_
      rintro _ _ ⟨rfl, rfl⟩
      refine qS 15 rfl (ok_not · (.tmp rfl)) ?_
      refine hr_region_end ?_
      try dsimp only [w0, w1, w2, w3]
      rcases ifc h with ⟨hc4, h⟩ | ⟨hc4, h⟩
      · refine q_cond_t rfl (.tmp rfl) hc4 ?_
        refine q_exit rfl rfl ?_
        try dsimp only [w0, w1, w2, w3]
        exact J1_snd  h
      · refine q_cond_f rfl (.tmp rfl) (bfalse hc4) ?_
        refine q_skipc rfl ?_
        refine q_region rfl rfl ?_
        refine qS 16 rfl (ok_move · (.tmp rfl)) ?_
        refine qS 17 rfl (ok_move · (.tmp rfl)) ?_
        refine qS 18 rfl (ok_len_str · rfl tu9 (.tmp rfl)) ?_
        refine qS 19 rfl (ok_ibin · (.tmp rfl) (.int _ _) rfl) ?_
        try dsimp only [w0, w1, w2, w3]
        obtain ⟨hg5, h⟩ := gd h
        refine qS 20 rfl (ok_slice_str (kl := .i64) (kh := .i64) (l := 0) (h := (w64 ((List.length y0 : Int) - 1))) · tu9 (.tmp rfl) (.inl ⟨rfl, rfl⟩) (.inr ⟨_, rfl, (.tmp rfl)⟩) hg5.1 hg5.2.1 hg5.2.2) ?_
        refine qS 0 rfl (ok_assign · (.tmp rfl)) ?_
        refine hr_region_end ?_
        try dsimp only [w0, w1, w2, w3]
        refine hr_inBlock ?_
        try dsimp only [w0, w1, w2, w3]
        exact ih h
    · refine q_cond_f rfl (.tmp rfl) (decide_eq_false hc1) ?_
      refine q_exit rfl rfl ?_
      try dsimp only [w0, w1, w2, w3]
      exact J1_snd  h
def f (k : Nat) (x0 : (List UInt8)) (x1 : (Option HA)) (S : HS) : Option (((List UInt8)) × HS) :=
  L0 k k x0 x1 S
theorem snd {k : Nat} {x0 : (List UInt8)} {x1 : (Option HA)} {S : HS}  {p : ((List UInt8)) × HS} (h : f k x0 x1 S = some p) : HCall Tryd.prog base W0 β0 45 [(.str x0), (.ptr x1)] S (fun v S1 => v = (.str p.1) ∧ S1 = p.2) := by
  unfold f at h
  refine HCall.of_run at_.at_ body ?_
  show HRun Tryd.prog base W0 β0 45 none [.code c0] ⟨[(.str x0), (.ptr x1), τ, τ, τ, τ, τ, τ, τ, τ, τ, τ, τ, τ, τ, τ, τ, τ, τ, τ, τ, τ], []⟩ S _
  refine q_seq rfl ?_
  refine q_region rfl rfl ?_
  refine qS 4 rfl (ok_assign · (.str _)) ?_
  refine hr_region_end ?_
  try dsimp only [w0, w1, w2, w3]
  refine q_seq rfl ?_
  refine q_block rfl ?_
  refine q_loop rfl ?_
  try dsimp only [w0, w1, w2, w3]
  exact L0_snd  h
end
end strings_trimRightASCII
namespace strings_trimLeftASCII
theorem at_ : FnAt Tryd.prog 44 Tryd.f44 := ⟨Tryd.func44, by kernel_rfl⟩
noncomputable def d0 := (Tryd.f44.body).getD .skip
noncomputable def r1 := kR (kA d0)
noncomputable def r7 := kR (kA (kA (kA (kA (kA (kB d0))))))
noncomputable def d11 := kB (kA (kA (kA (kB d0))))
noncomputable def r14 := kR (kA (kA (kA d11)))
noncomputable def r18 := kR (kB (kA d11))
noncomputable def r20 := kR (kA (kB (kB d0)))
noncomputable def c19 : Code := .seq (.region 4 r20 false) .ret
noncomputable def c5 : Code := .seq (.seq (.region 1 r7 false) (.cond (.tmp 7) .skip (.exit 0))) (.block 1 (.seq (.seq (.region 2 r14 false) (.cond (.tmp 12) (.exit 0) .skip)) (.region 3 r18 false)))
noncomputable def c0 : Code := .seq (.region 0 r1 false) (.seq (.block 0 (.loop c5)) c19)
theorem body : Tryd.f44.body = some c0 := by kernel_rfl
section
variable {base : Nat} {W0 : World} {β0 : Bt}
def J1 (k : Nat) (y0 : (List UInt8)) (S : HS) : Option (((List UInt8)) × HS) :=
  some (y0, S)
theorem J1_snd {k : Nat}  {y0 : (List UInt8)} {S : HS} {p : ((List UInt8)) × HS} {g1 g2 g3 g4 g5 g6 g7 g8 g9 g10 g11 g12 g13 g14 g15 : HV} (h : J1 k y0 S = some p) : HRun Tryd.prog base W0 β0 44 none [.code c19] ⟨[(.str y0), g1, g2, g3, g4, g5, g6, g7, g8, g9, g10, g11, g12, g13, g14, g15], []⟩ S (fun v S1 => v = (.str p.1) ∧ S1 = p.2) := by
  unfold J1 at h
  refine q_seq rfl ?_
  refine q_region rfl rfl ?_
  refine qS 15 rfl (ok_move · (.tmp rfl)) ?_
  refine qS 4 rfl (ok_assign · (.tmp rfl)) ?_
  refine hr_region_end ?_
  try dsimp only [w0, w1, w2, w3]
  cases h
  exact q_ret rfl at_.at_ rfl (res1 rfl rfl) ⟨rfl, rfl⟩
def L0 (k : Nat) : Nat → (List UInt8) → (Option HA) → HS → Option (((List UInt8)) × HS)
  | 0, _, _, _ => none
  | n + 1, y0, y1, S =>
    (if (List.length y0 : Int) > 0 then
    (Option.bind (sat y0 0) fun p2 =>
    (Option.bind (strings_asciiSet_contains.f y1 (UInt8.toNat p2 : Int) S) fun p3 =>
    (if (!p3.1) = true then
    J1 k y0 p3.2 else
    (if 0 ≤ (1 : Int) ∧ (1 : Int) ≤ (List.length y0 : Int) ∧ ((List.length y0 : Int) : Int) ≤ (List.length y0 : Int) then
    (L0 k n) (ssub y0 1 (List.length y0 : Int)) y1 p3.2 else none)))) else
    J1 k y0 S)
theorem L0_snd {k : Nat}  : ∀ {n : Nat} ⦃y0 : (List UInt8)⦄ ⦃y1 : (Option HA)⦄ ⦃S : HS⦄ ⦃p : ((List UInt8)) × HS⦄ ⦃g2 g3 g4 g5 g6 g7 g8 g9 g10 g11 g12 g13 g14 g15 : HV⦄, L0 k n y0 y1 S = some p → HRun Tryd.prog base W0 β0 44 none [.inLoop c5, .inBlock 0, .code c19] ⟨[(.str y0), (.ptr y1), g2, g3, g4, g5, g6, g7, g8, g9, g10, g11, g12, g13, g14, g15], []⟩ S (fun v S1 => v = (.str p.1) ∧ S1 = p.2) := by
  intro n
  induction n with
  | zero => intro _ _ _ _ _ _ _ _ _ _ _ _ _ _ _ _ _ _ h; cases h
  | succ n ih =>
    intro y0 y1 S p g2 g3 g4 g5 g6 g7 g8 g9 g10 g11 g12 g13 g14 g15 h
    simp only [L0] at h
    refine hr_inLoop ?_
    refine q_seq rfl ?_
    refine q_seq rfl ?_
    refine q_region rfl rfl ?_
    refine qS 5 rfl (ok_move · (.tmp rfl)) ?_
    refine qS 6 rfl (ok_len_str · rfl tu9 (.tmp rfl)) ?_
    refine qS 7 rfl (ok_ibin · (.tmp rfl) (.int _ _) rfl) ?_
    refine hr_region_end ?_
    try dsimp only [w0, w1, w2, w3]
    rcases ifc h with ⟨hc1, h⟩ | ⟨hc1, h⟩
    · refine q_cond_t rfl (.tmp rfl) (decide_eq_true hc1) ?_
      refine q_skipc rfl ?_
      refine q_block rfl ?_
      refine q_seq rfl ?_
      refine q_seq rfl ?_
      refine q_region rfl rfl ?_
      refine qS 8 rfl (ok_move · (.tmp rfl)) ?_
      refine qS 9 rfl (ok_move · (.tmp rfl)) ?_
      obtain ⟨p2, hp2, h⟩ := bindo h
      refine qS 10 rfl (ok_index_s · tu9 (.tmp rfl) (.int _ _) hp2) ?_
      obtain ⟨p3, hp3, h⟩ := bindo h
      refine q_call (dst := some 11) rfl (.func _) (.cons (.tmp rfl) (.cons (.tmp rfl) Evs.nil)) (HInv.static strings_asciiSet_contains.at_ strings_asciiSet_contains.body (strings_asciiSet_contains.snd  hp3)) ?_
      rintro _ _ ⟨rfl, rfl⟩
      try dsimp only [w0, w1, w2, w3]
      refine qS 12 rfl (ok_not · (.tmp rfl)) ?_
      refine hr_region_end ?_
      try dsimp only [w0, w1, w2, w3]
      rcases ifc h with ⟨hc4, h⟩ | ⟨hc4, h⟩
      · refine q_cond_t rfl (.tmp rfl) hc4 ?_
        refine q_exit rfl rfl ?_
        try dsimp only [w0, w1, w2, w3]
        exact J1_snd  h
      · refine q_cond_f rfl (.tmp rfl) (bfalse hc4) ?_
        refine q_skipc rfl ?_
        refine q_region rfl rfl ?_
        refine qS 13 rfl (ok_move · (.tmp rfl)) ?_
        obtain ⟨hg5, h⟩ := gd h
        refine qS 14 rfl (ok_slice_str (kl := .i64) (kh := .i64) (l := 1) (h := (List.length y0 : Int)) · tu9 (.tmp rfl) (.inr ⟨_, rfl, (.int _ _)⟩) (.inl ⟨rfl, rfl⟩) hg5.1 hg5.2.1 hg5.2.2) ?_
        refine qS 0 rfl (ok_assign · (.tmp rfl)) ?_
        refine hr_region_end ?_
        try dsimp only [w0, w1, w2, w3]
        refine hr_inBlock ?_
        try dsimp only [w0, w1, w2, w3]
        exact ih h
    · refine q_cond_f rfl (.tmp rfl) (decide_eq_false hc1) ?_
      refine q_exit rfl rfl ?_
      try dsimp only [w0, w1, w2, w3]
      exact J1_snd  h
def f (k : Nat) (x0 : (List UInt8)) (x1 : (Option HA)) (S : HS) : Option (((List UInt8)) × HS) :=
  L0 k k x0 x1 S
theorem snd {k : Nat} {x0 : (List UInt8)} {x1 : (Option HA)} {S : HS}  {p : ((List UInt8)) × HS} (h : f k x0 x1 S = some p) : HCall Tryd.prog base W0 β0 44 [(.str x0), (.ptr x1)] S (fun v S1 => v = (.str p.1) ∧ S1 = p.2) := by
  unfold f at h
  refine HCall.of_run at_.at_ body ?_
  show HRun Tryd.prog base W0 β0 44 none [.code c0] ⟨[(.str x0), (.ptr x1), τ, τ, τ, τ, τ, τ, τ, τ, τ, τ, τ, τ, τ, τ], []⟩ S _
  refine q_seq rfl ?_
  refine q_region rfl rfl ?_
  refine qS 4 rfl (ok_assign · (.str _)) ?_
  refine hr_region_end ?_
  try dsimp only [w0, w1, w2, w3]
  refine q_seq rfl ?_
  refine q_block rfl ?_
  refine q_loop rfl ?_
  try dsimp only [w0, w1, w2, w3]
  exact L0_snd  h
end
end strings_trimLeftASCII
namespace unicode_utf8_RuneStart
theorem at_ : FnAt Tryd.prog 73 Tryd.f73 := ⟨Tryd.func73, by kernel_rfl⟩
noncomputable def d0 := (Tryd.f73.body).getD .skip
noncomputable def r1 := kR (kA d0)
noncomputable def r3 := kR (kA (kB d0))
noncomputable def c0 : Code := .seq (.region 0 r1 false) (.seq (.region 1 r3 false) .ret)
theorem body : Tryd.f73.body = some c0 := by kernel_rfl
section
variable {base : Nat} {W0 : World} {β0 : Bt}
def f (x0 : Int) : Option (Bool) :=
  some (!decide ((iand .u8 x0 192) = 128))
theorem snd {x0 : Int} {S : HS}  {p : Bool} (h : f x0 = some p) : HCall Tryd.prog base W0 β0 73 [(.int .u8 x0)] S (fun v S1 => v = (.bool p) ∧ S1 = S) := by
  unfold f at h
  refine HCall.of_run at_.at_ body ?_
  show HRun Tryd.prog base W0 β0 73 none [.code c0] ⟨[(.int .u8 x0), τ, τ, τ, τ, τ], []⟩ S _
  refine q_seq rfl ?_
  refine q_region rfl rfl ?_
  refine qS 2 rfl (ok_assign · (.bool _)) ?_
  refine hr_region_end ?_
  try dsimp only [w0, w1, w2, w3]
  refine q_seq rfl ?_
  refine q_region rfl rfl ?_
  refine qS 3 rfl (ok_move · (.tmp rfl)) ?_
  refine qS 4 rfl (ok_ibin · (.tmp rfl) (.int _ _) rfl) ?_
  refine qS 5 rfl (ok_ibin · (.tmp rfl) (.int _ _) rfl) ?_
  refine qS 2 rfl (ok_assign · (.tmp rfl)) ?_
  refine hr_region_end ?_
  try dsimp only [w0, w1, w2, w3]
  cases h
  exact q_ret rfl at_.at_ rfl (res1 rfl rfl) ⟨rfl, rfl⟩
end
end unicode_utf8_RuneStart
namespace unicode_utf8_decodeRuneInStringSlow
theorem at_ : FnAt Tryd.prog 72 Tryd.f72 := ⟨Tryd.func72, by kernel_rfl⟩
noncomputable def d0 := (Tryd.f72.body).getD .skip
noncomputable def r1 := kR (kA d0)
noncomputable def r3 := kR (kA (kB d0))
noncomputable def r6 := kR (kA (kA (kB (kB d0))))
noncomputable def r9 := kR (kA (kA (kB (kA (kB (kB d0))))))
noncomputable def d12 := kB (kB (kB d0))
noncomputable def r13 := kR (kA d12)
noncomputable def r15 := kR (kA (kB d12))
noncomputable def r18 := kR (kA (kA (kB (kB d12))))
noncomputable def d20 := kA (kB (kA (kB (kB d12))))
noncomputable def r21 := kR (kA d20)
noncomputable def r23 := kR (kA (kB d20))
noncomputable def d26 := kB (kB (kB d12))
noncomputable def r27 := kR (kA d26)
noncomputable def r29 := kR (kA (kB d26))
noncomputable def r32 := kR (kA (kA (kB (kB d26))))
noncomputable def r35 := kR (kA (kA (kB (kA (kB (kB d26))))))
noncomputable def d38 := kB (kB (kB d26))
noncomputable def r39 := kR (kA d38)
noncomputable def r42 := kR (kA (kA (kB d38)))
noncomputable def r45 := kR (kA (kA (kB (kA (kB d38)))))
noncomputable def r50 := kR (kA (kA (kB (kB d38))))
noncomputable def r53 := kR (kA (kA (kB (kA (kB (kB d38))))))
noncomputable def d56 := kB (kB (kB d38))
noncomputable def r57 := kR (kA d56)
noncomputable def r60 := kR (kA (kA (kB d56)))
noncomputable def r63 := kR (kA (kA (kB (kA (kB d56)))))
noncomputable def r68 := kR (kA (kA (kB (kB d56))))
noncomputable def r71 := kR (kA (kA (kB (kA (kB (kB d56))))))
noncomputable def d74 := kB (kB (kB d56))
noncomputable def r75 := kR (kA d74)
noncomputable def r78 := kR (kA (kA (kB d74)))
noncomputable def r81 := kR (kA (kA (kB (kA (kB d74)))))
noncomputable def r85 := kR (kA (kB (kB d74)))
noncomputable def c0 : Code := .seq (.region 0 r1 false) (.seq (.region 1 r3 false) (.seq (.seq (.region 2 r6 false) (.cond (.tmp 16) (.seq (.region 3 r9 false) .ret) .skip)) (.seq (.region 4 r13 false) (.seq (.region 5 r15 false) (.seq (.seq (.region 6 r18 false) (.cond (.tmp 23) (.seq (.region 7 r21 false) (.seq (.region 8 r23 false) .ret)) .skip)) (.seq (.region 9 r27 false) (.seq (.region 10 r29 false) (.seq (.seq (.region 11 r32 false) (.cond (.tmp 45) (.seq (.region 12 r35 false) .ret) .skip)) (.seq (.region 13 r39 false) (.seq (.seq (.region 14 r42 false) (.cond (.tmp 57) (.seq (.region 15 r45 false) .ret) .skip)) (.seq (.seq (.region 16 r50 false) (.cond (.tmp 59) (.seq (.region 17 r53 false) .ret) .skip)) (.seq (.region 18 r57 false) (.seq (.seq (.region 19 r60 false) (.cond (.tmp 75) (.seq (.region 20 r63 false) .ret) .skip)) (.seq (.seq (.region 21 r68 false) (.cond (.tmp 77) (.seq (.region 22 r71 false) .ret) .skip)) (.seq (.region 23 r75 false) (.seq (.seq (.region 24 r78 false) (.cond (.tmp 98) (.seq (.region 25 r81 false) .ret) .skip)) (.seq (.region 26 r85 false) .ret)))))))))))))))))
theorem body : Tryd.f72.body = some c0 := by kernel_rfl
section
variable {base : Nat} {W0 : World} {β0 : Bt}
def f (x0 : (List UInt8)) (S : HS) : Option ((Int × Int) × HS) :=
  (if (List.length x0 : Int) < 1 then
  some ((65533, 0), S) else
  (Option.bind (sat x0 0) fun p2 =>
  none))
theorem snd {x0 : (List UInt8)} {S : HS}  {p : (Int × Int) × HS} (h : f x0 S = some p) : HCall Tryd.prog base W0 β0 72 [(.str x0)] S (fun v S1 => v = (.tup [(.int .i32 p.1.1), (.int .i64 p.1.2)]) ∧ S1 = p.2) := by
  unfold f at h
  refine HCall.of_run at_.at_ body ?_
  show HRun Tryd.prog base W0 β0 72 none [.code c0] ⟨[(.str x0), τ, τ, τ, τ, τ, τ, τ, τ, τ, τ, τ, τ, τ, τ, τ, τ, τ, τ, τ, τ, τ, τ, τ, τ, τ, τ, τ, τ, τ, τ, τ, τ, τ, τ, τ, τ, τ, τ, τ, τ, τ, τ, τ, τ, τ, τ, τ, τ, τ, τ, τ, τ, τ, τ, τ, τ, τ, τ, τ, τ, τ, τ, τ, τ, τ, τ, τ, τ, τ, τ, τ, τ, τ, τ, τ, τ, τ, τ, τ, τ, τ, τ, τ, τ, τ, τ, τ, τ, τ, τ, τ, τ, τ, τ, τ, τ, τ, τ, τ, τ, τ, τ, τ, τ, τ, τ, τ, τ, τ, τ, τ, τ, τ, τ, τ, τ], []⟩ S _
  refine q_seq rfl ?_
  refine q_region rfl rfl ?_
  refine qS 2 rfl (ok_assign · (.int _ _)) ?_
  refine qS 3 rfl (ok_assign · (.int _ _)) ?_
  refine hr_region_end ?_
  try dsimp only [w0, w1, w2, w3]
  refine q_seq rfl ?_
  refine q_region rfl rfl ?_
  refine qS 13 rfl (ok_move · (.tmp rfl)) ?_
  refine qS 14 rfl (ok_len_str · rfl tu9 (.tmp rfl)) ?_
  refine qS 4 rfl (ok_assign · (.tmp rfl)) ?_
  refine hr_region_end ?_
  try dsimp only [w0, w1, w2, w3]
  refine q_seq rfl ?_
  refine q_seq rfl ?_
  refine q_region rfl rfl ?_
  refine qS 15 rfl (ok_move · (.tmp rfl)) ?_
  refine qS 16 rfl (ok_ibin · (.tmp rfl) (.int _ _) rfl) ?_
  refine hr_region_end ?_
  try dsimp only [w0, w1, w2, w3]
  rcases ifc h with ⟨hc1, h⟩ | ⟨hc1, h⟩
  · refine q_cond_t rfl (.tmp rfl) (decide_eq_true hc1) ?_
    refine q_seq rfl ?_
    refine q_region rfl rfl ?_
    refine qS 2 rfl (ok_assign · (.int _ _)) ?_
    refine qS 3 rfl (ok_assign · (.int _ _)) ?_
    refine hr_region_end ?_
    try dsimp only [w0, w1, w2, w3]
    cases h
    exact q_ret rfl at_.at_ rfl (res2 rfl rfl rfl) ⟨rfl, rfl⟩
  · refine q_cond_f rfl (.tmp rfl) (decide_eq_false hc1) ?_
    refine q_skipc rfl ?_
    refine q_seq rfl ?_
    refine q_region rfl rfl ?_
    refine qS 17 rfl (ok_move · (.tmp rfl)) ?_
    obtain ⟨p2, hp2, h⟩ := bindo h
    refine qS 18 rfl (ok_index_s · tu9 (.tmp rfl) (.int _ _) hp2) ?_
    refine qS 5 rfl (ok_assign · (.tmp rfl)) ?_
    refine hr_region_end ?_
    try dsimp only [w0, w1, w2, w3]
    refine q_seq rfl ?_
    refine q_region rfl rfl ?_
    refine qS 19 rfl (ok_move · (.tmp rfl)) ?_
    cases h
end
end unicode_utf8_decodeRuneInStringSlow
namespace unicode_utf8_DecodeRuneInString
theorem at_ : FnAt Tryd.prog 60 Tryd.f60 := ⟨Tryd.func60, by kernel_rfl⟩
noncomputable def d0 := (Tryd.f60.body).getD .skip
noncomputable def r1 := kR (kA d0)
noncomputable def r4 := kR (kA (kA (kB d0)))
noncomputable def r7 := kR (kA (kA (kB (kA (kB d0)))))
noncomputable def r9 := kR (kB (kB (kA (kB d0))))
noncomputable def c10 : Code := .ret
noncomputable def c5 : Code := .cond (.tmp 10) (.seq (.region 2 r7 false) .ret) (.region 3 r9 false)
noncomputable def c0 : Code := .seq (.region 0 r1 false) (.seq (.seq (.region 1 r4 false) c5) c10)
theorem body : Tryd.f60.body = some c0 := by kernel_rfl
section
variable {base : Nat} {W0 : World} {β0 : Bt}
def J0  (y0 : (List UInt8)) (y10 : Bool) (S : HS) : Option ((Int × Int) × HS) :=
  (if y10 = true then
  (Option.bind (sat y0 0) fun p4 =>
  some (((IntKind.wrap .i32 (UInt8.toNat p4 : Int)), 1), S)) else
  (Option.bind (unicode_utf8_decodeRuneInStringSlow.f y0 S) fun p5 =>
  some ((p5.1.1, p5.1.2), p5.2)))
theorem J0_snd   {y0 : (List UInt8)} {y10 : Bool} {S : HS} {p : (Int × Int) × HS} {g1 g2 g3 g4 g5 g6 g7 g8 g9 g11 g12 g13 g14 g15 g16 g17 g18 : HV} (h : J0  y0 y10 S = some p) : HRun Tryd.prog base W0 β0 60 none [.code c5, .code c10] ⟨[(.str y0), g1, g2, g3, g4, g5, g6, g7, g8, g9, (.bool y10), g11, g12, g13, g14, g15, g16, g17, g18], []⟩ S (fun v S1 => v = (.tup [(.int .i32 p.1.1), (.int .i64 p.1.2)]) ∧ S1 = p.2) := by
  unfold J0 at h
  rcases ifc h with ⟨hc3, h⟩ | ⟨hc3, h⟩
  · refine q_cond_t rfl (.tmp rfl) hc3 ?_
    refine q_seq rfl ?_
    refine q_region rfl rfl ?_
    refine qS 11 rfl (ok_move · (.tmp rfl)) ?_
    obtain ⟨p4, hp4, h⟩ := bindo h
    refine qS 12 rfl (ok_index_s · tu9 (.tmp rfl) (.int _ _) hp4) ?_
    refine qS 13 rfl (ok_conv_int · tu5 tu21 (.tmp rfl)) ?_
    refine qS 2 rfl (ok_assign · (.tmp rfl)) ?_
    try dsimp only [w0, w1, w2, w3]
    refine qS 3 rfl (ok_assign · (.int _ _)) ?_
    refine hr_region_end ?_
    try dsimp only [w0, w1, w2, w3]
    cases h
    exact q_ret rfl at_.at_ rfl (res2 rfl rfl rfl) ⟨rfl, rfl⟩
  · refine q_cond_f rfl (.tmp rfl) (bfalse hc3) ?_
    refine q_region rfl rfl ?_
    refine qS 15 rfl (ok_move · (.tmp rfl)) ?_
    obtain ⟨p5, hp5, h⟩ := bindo h
    refine q_call (dst := some 16) rfl (.func _) (.cons (.tmp rfl) Evs.nil) (HInv.static unicode_utf8_decodeRuneInStringSlow.at_ unicode_utf8_decodeRuneInStringSlow.body (unicode_utf8_decodeRuneInStringSlow.snd  hp5)) ?_
    rintro _ _ ⟨rfl, rfl⟩
    refine qS 14 rfl (ok_move · (.tmp rfl)) ?_
    refine qS 17 rfl (ok_extract · (.tmp rfl) rfl) ?_
    try dsimp only [w0, w1, w2, w3]
    refine qS 18 rfl (ok_extract · (.tmp rfl) rfl) ?_
    refine qS 2 rfl (ok_assign · (.tmp rfl)) ?_
    refine qS 3 rfl (ok_assign · (.tmp rfl)) ?_
    refine hr_region_end ?_
    try dsimp only [w0, w1, w2, w3]
    cases h
    exact q_ret rfl at_.at_ rfl (res2 rfl rfl rfl) ⟨rfl, rfl⟩
def f (x0 : (List UInt8)) (S : HS) : Option ((Int × Int) × HS) :=
  (if (!decide (x0 = ([] : List UInt8))) = true then
  (Option.bind (sat x0 0) fun p2 =>
  J0 x0 (decide ((UInt8.toNat p2 : Int) < 128)) S) else
  J0 x0 false S)
theorem snd {x0 : (List UInt8)} {S : HS}  {p : (Int × Int) × HS} (h : f x0 S = some p) : HCall Tryd.prog base W0 β0 60 [(.str x0)] S (fun v S1 => v = (.tup [(.int .i32 p.1.1), (.int .i64 p.1.2)]) ∧ S1 = p.2) := by
  unfold f at h
  refine HCall.of_run at_.at_ body ?_
  show HRun Tryd.prog base W0 β0 60 none [.code c0] ⟨[(.str x0), τ, τ, τ, τ, τ, τ, τ, τ, τ, τ, τ, τ, τ, τ, τ, τ, τ, τ], []⟩ S _
  refine q_seq rfl ?_
  refine q_region rfl rfl ?_
  refine qS 2 rfl (ok_assign · (.int _ _)) ?_
  refine qS 3 rfl (ok_assign · (.int _ _)) ?_
  refine hr_region_end ?_
  try dsimp only [w0, w1, w2, w3]
  refine q_seq rfl ?_
  refine q_seq rfl ?_
  refine q_region rfl rfl ?_
  refine qS 4 rfl (ok_move · (.tmp rfl)) ?_
  refine qS 5 rfl (ok_sbin · (.tmp rfl) (.str _) rfl) ?_
  refine qS 6 rfl (ok_move · (.tmp rfl)) ?_
  rcases ifc h with ⟨hc1, h⟩ | ⟨hc1, h⟩
  · refine qG 6 7 rfl hc1 (ok_move · (.tmp rfl)) ?_
    try dsimp only [w0, w1, w2, w3]
    obtain ⟨p2, hp2, h⟩ := bindo h
    refine qG 6 8 rfl hc1 (ok_index_s · tu9 (.tmp rfl) (.int _ _) hp2) ?_
    refine qG 6 9 rfl hc1 (ok_ibin · (.tmp rfl) (.int _ _) rfl) ?_
    refine qS 10 rfl (ok_pick_tt · (.tmp rfl) hc1 (.tmp rfl)) ?_
    refine hr_region_end ?_
    try dsimp only [w0, w1, w2, w3]
    try dsimp only [w0, w1, w2, w3]
    exact J0_snd  h
  · refine q_skip (dst := some 7) (t := 6) rfl rfl rfl (bfalse hc1) ?_
    try dsimp only [w0, w1, w2, w3]
    refine q_skip (dst := some 8) (t := 6) rfl rfl rfl (bfalse hc1) ?_
    refine q_skip (dst := some 9) (t := 6) rfl rfl rfl (bfalse hc1) ?_
    refine qS 10 rfl (ok_pick_ff · (.tmp rfl) (bfalse hc1) (.bool _)) ?_
    refine hr_region_end ?_
    try dsimp only [w0, w1, w2, w3]
    try dsimp only [w0, w1, w2, w3]
    exact J0_snd  h
end
end unicode_utf8_DecodeRuneInString
namespace unicode_utf8_DecodeLastRuneInString
theorem at_ : FnAt Tryd.prog 62 Tryd.f62 := ⟨Tryd.func62, by kernel_rfl⟩
noncomputable def d0 := (Tryd.f62.body).getD .skip
noncomputable def r1 := kR (kA d0)
noncomputable def r3 := kR (kA (kB d0))
noncomputable def r6 := kR (kA (kA (kB (kB d0))))
noncomputable def r9 := kR (kA (kA (kB (kA (kB (kB d0))))))
noncomputable def d12 := kB (kB (kB d0))
noncomputable def r13 := kR (kA d12)
noncomputable def r15 := kR (kA (kB d12))
noncomputable def r18 := kR (kA (kA (kB (kB d12))))
noncomputable def r21 := kR (kA (kA (kB (kA (kB (kB d12))))))
noncomputable def d24 := kB (kB (kB d12))
noncomputable def r25 := kR (kA d24)
noncomputable def r28 := kR (kA (kA (kB d24)))
noncomputable def d31 := kA (kA (kB (kA (kB d24))))
noncomputable def r33 := kR (kA (kA d31))
noncomputable def r40 := kR (kA (kA (kA (kB d31))))
noncomputable def r44 := kR (kB (kB d31))
noncomputable def r47 := kR (kA (kA (kB (kB d24))))
noncomputable def r49 := kR (kA (kB (kA (kB (kB d24)))))
noncomputable def d51 := kB (kB (kB d24))
noncomputable def r52 := kR (kA d51)
noncomputable def r55 := kR (kA (kA (kB d51)))
noncomputable def r58 := kR (kA (kA (kB (kA (kB d51)))))
noncomputable def r62 := kR (kA (kB (kB d51)))
noncomputable def c51 : Code := .seq (.region 15 r52 false) (.seq (.seq (.region 16 r55 false) (.cond (.tmp 48) (.seq (.region 17 r58 false) .ret) .skip)) (.seq (.region 18 r62 false) .ret))
noncomputable def c45 : Code := .seq (.seq (.region 13 r47 false) (.cond (.tmp 35) (.region 14 r49 false) .skip)) c51
noncomputable def c31 : Code := .seq (.seq (.region 10 r33 false) (.cond (.tmp 27) .skip (.exit 0))) (.seq (.block 1 (.seq (.region 12 r40 false) (.cond (.tmp 33) (.exit 0) .skip))) (.region 11 r44 false))
noncomputable def c0 : Code := .seq (.region 0 r1 false) (.seq (.region 1 r3 false) (.seq (.seq (.region 2 r6 false) (.cond (.tmp 10) (.seq (.region 3 r9 false) .ret) .skip)) (.seq (.region 4 r13 false) (.seq (.region 5 r15 false) (.seq (.seq (.region 6 r18 false) (.cond (.tmp 18) (.seq (.region 7 r21 false) .ret) .skip)) (.seq (.region 8 r25 false) (.seq (.seq (.region 9 r28 false) (.block 0 (.loop c31))) c45)))))))
theorem body : Tryd.f62.body = some c0 := by kernel_rfl
section
variable {base : Nat} {W0 : World} {β0 : Bt}
def J2 (k : Nat) (y0 : (List UInt8)) (y4 : Int) (y5 : Int) (S : HS) : Option ((Int × Int) × HS) :=
  (if 0 ≤ (y5 : Int) ∧ (y5 : Int) ≤ y4 ∧ (y4 : Int) ≤ (List.length y0 : Int) then
  (Option.bind (unicode_utf8_DecodeRuneInString.f (ssub y0 y5 y4) S) fun p10 =>
  (if (!decide ((w64 (y5 + p10.1.2)) = y4)) = true then
  some ((65533, 1), p10.2) else
  some ((p10.1.1, p10.1.2), p10.2))) else none)
theorem J2_snd {k : Nat}  {y0 : (List UInt8)} {y4 : Int} {y5 : Int} {S : HS} {p : (Int × Int) × HS} {g1 g2 g3 g6 g7 g8 g9 g10 g11 g12 g13 g14 g15 g16 g17 g18 g19 g20 g21 g22 g23 g24 g25 g26 g27 g28 g29 g30 g31 g32 g33 g34 g35 g36 g37 g38 g39 g40 g41 g42 g43 g44 g45 g46 g47 g48 g49 g50 : HV} (h : J2 k y0 y4 y5 S = some p) : HRun Tryd.prog base W0 β0 62 none [.code c51] ⟨[(.str y0), g1, g2, g3, (.int .i64 y4), (.int .i64 y5), g6, g7, g8, g9, g10, g11, g12, g13, g14, g15, g16, g17, g18, g19, g20, g21, g22, g23, g24, g25, g26, g27, g28, g29, g30, g31, g32, g33, g34, g35, g36, g37, g38, g39, g40, g41, g42, g43, g44, g45, g46, g47, g48, g49, g50], []⟩ S (fun v S1 => v = (.tup [(.int .i32 p.1.1), (.int .i64 p.1.2)]) ∧ S1 = p.2) := by
  unfold J2 at h
  refine q_seq rfl ?_
  refine q_region rfl rfl ?_
  refine qS 37 rfl (ok_move · (.tmp rfl)) ?_
  refine qS 38 rfl (ok_move · (.tmp rfl)) ?_
  refine qS 39 rfl (ok_move · (.tmp rfl)) ?_
  obtain ⟨hg9, h⟩ := gd h
  refine qS 40 rfl (ok_slice_str (kl := .i64) (kh := .i64) (l := y5) (h := y4) · tu9 (.tmp rfl) (.inr ⟨_, rfl, (.tmp rfl)⟩) (.inr ⟨_, rfl, (.tmp rfl)⟩) hg9.1 hg9.2.1 hg9.2.2) ?_
  try dsimp only [w0, w1, w2, w3]
  obtain ⟨p10, hp10, h⟩ := bindo h
  refine q_call (dst := some 41) rfl (.func _) (.cons (.tmp rfl) Evs.nil) (HInv.static unicode_utf8_DecodeRuneInString.at_ unicode_utf8_DecodeRuneInString.body (unicode_utf8_DecodeRuneInString.snd  hp10)) ?_
  rintro _ _ ⟨rfl, rfl⟩
  refine qS 36 rfl (ok_move · (.tmp rfl)) ?_
  refine qS 42 rfl (ok_extract · (.tmp rfl) rfl) ?_
  refine qS 43 rfl (ok_extract · (.tmp rfl) rfl) ?_
  try dsimp only [w0, w1, w2, w3]
  refine qS 2 rfl (ok_assign · (.tmp rfl)) ?_
  refine qS 3 rfl (ok_assign · (.tmp rfl)) ?_
  refine hr_region_end ?_
  try dsimp only [w0, w1, w2, w3]
  refine q_seq rfl ?_
  refine q_seq rfl ?_
  refine q_region rfl rfl ?_
  refine qS 44 rfl (ok_move · (.tmp rfl)) ?_
  refine qS 45 rfl (ok_move · (.tmp rfl)) ?_
  refine qS 46 rfl (ok_ibin · (.tmp rfl) (.tmp rfl) rfl) ?_
  refine qS 47 rfl (ok_move · (.tmp rfl)) ?_
  try dsimp only [w0, w1, w2, w3]
  refine qS 48 rfl (ok_ibin · (.tmp rfl) (.tmp rfl) rfl) ?_
  refine hr_region_end ?_
  try dsimp only [w0, w1, w2, w3]
  rcases ifc h with ⟨hc11, h⟩ | ⟨hc11, h⟩
  · refine q_cond_t rfl (.tmp rfl) hc11 ?_
    refine q_seq rfl ?_
    refine q_region rfl rfl ?_
    refine qS 2 rfl (ok_assign · (.int _ _)) ?_
    refine qS 3 rfl (ok_assign · (.int _ _)) ?_
    refine hr_region_end ?_
    try dsimp only [w0, w1, w2, w3]
    cases h
    exact q_ret rfl at_.at_ rfl (res2 rfl rfl rfl) ⟨rfl, rfl⟩
  · refine q_cond_f rfl (.tmp rfl) (bfalse hc11) ?_
    refine q_skipc rfl ?_
    refine q_seq rfl ?_
    refine q_region rfl rfl ?_
    refine qS 49 rfl (ok_move · (.tmp rfl)) ?_
    refine qS 50 rfl (ok_move · (.tmp rfl)) ?_
    refine qS 2 rfl (ok_assign · (.tmp rfl)) ?_
    refine qS 3 rfl (ok_assign · (.tmp rfl)) ?_
    refine hr_region_end ?_
    try dsimp only [w0, w1, w2, w3]
    cases h
    exact q_ret rfl at_.at_ rfl (res2 rfl rfl rfl) ⟨rfl, rfl⟩
def J1 (k : Nat) (y0 : (List UInt8)) (y4 : Int) (y5 : Int) (S : HS) : Option ((Int × Int) × HS) :=
  (if y5 < 0 then
  J2 k y0 y4 0 S else
  J2 k y0 y4 y5 S)
theorem J1_snd {k : Nat}  {y0 : (List UInt8)} {y4 : Int} {y5 : Int} {S : HS} {p : (Int × Int) × HS} {g1 g2 g3 g6 g7 g8 g9 g10 g11 g12 g13 g14 g15 g16 g17 g18 g19 g20 g21 g22 g23 g24 g25 g26 g27 g28 g29 g30 g31 g32 g33 g34 g35 g36 g37 g38 g39 g40 g41 g42 g43 g44 g45 g46 g47 g48 g49 g50 : HV} (h : J1 k y0 y4 y5 S = some p) : HRun Tryd.prog base W0 β0 62 none [.code c45] ⟨[(.str y0), g1, g2, g3, (.int .i64 y4), (.int .i64 y5), g6, g7, g8, g9, g10, g11, g12, g13, g14, g15, g16, g17, g18, g19, g20, g21, g22, g23, g24, g25, g26, g27, g28, g29, g30, g31, g32, g33, g34, g35, g36, g37, g38, g39, g40, g41, g42, g43, g44, g45, g46, g47, g48, g49, g50], []⟩ S (fun v S1 => v = (.tup [(.int .i32 p.1.1), (.int .i64 p.1.2)]) ∧ S1 = p.2) := by
  unfold J1 at h
  refine q_seq rfl ?_
  refine q_seq rfl ?_
  refine q_region rfl rfl ?_
  refine qS 34 rfl (ok_move · (.tmp rfl)) ?_
  refine qS 35 rfl (ok_ibin · (.tmp rfl) (.int _ _) rfl) ?_
  refine hr_region_end ?_
  try dsimp only [w0, w1, w2, w3]
  rcases ifc h with ⟨hc8, h⟩ | ⟨hc8, h⟩
  · refine q_cond_t rfl (.tmp rfl) (decide_eq_true hc8) ?_
    refine q_region rfl rfl ?_
    refine qS 5 rfl (ok_assign · (.int _ _)) ?_
    refine hr_region_end ?_
    try dsimp only [w0, w1, w2, w3]
    try dsimp only [w0, w1, w2, w3]
    exact J2_snd  h
  · refine q_cond_f rfl (.tmp rfl) (decide_eq_false hc8) ?_
    refine q_skipc rfl ?_
    try dsimp only [w0, w1, w2, w3]
    exact J2_snd  h
def L0 (k : Nat) : Nat → (List UInt8) → Int → Int → Int → HS → Option ((Int × Int) × HS)
  | 0, _, _, _, _, _ => none
  | n + 1, y0, y4, y5, y6, S =>
    (if y5 ≥ y6 then
    (Option.bind (sat y0 y5) fun p5 =>
    (Option.bind (unicode_utf8_RuneStart.f (UInt8.toNat p5 : Int)) fun p6 =>
    (if p6 = true then
    J1 k y0 y4 y5 S else
    (L0 k n) y0 y4 (w64 (y5 - 1)) y6 S))) else
    J1 k y0 y4 y5 S)
theorem L0_snd {k : Nat}  : ∀ {n : Nat} ⦃y0 : (List UInt8)⦄ ⦃y4 : Int⦄ ⦃y5 : Int⦄ ⦃y6 : Int⦄ ⦃S : HS⦄ ⦃p : (Int × Int) × HS⦄ ⦃g1 g2 g3 g7 g8 g9 g10 g11 g12 g13 g14 g15 g16 g17 g18 g19 g20 g21 g22 g23 g24 g25 g26 g27 g28 g29 g30 g31 g32 g33 g34 g35 g36 g37 g38 g39 g40 g41 g42 g43 g44 g45 g46 g47 g48 g49 g50 : HV⦄, L0 k n y0 y4 y5 y6 S = some p → HRun Tryd.prog base W0 β0 62 none [.inLoop c31, .inBlock 0, .code c45] ⟨[(.str y0), g1, g2, g3, (.int .i64 y4), (.int .i64 y5), (.int .i64 y6), g7, g8, g9, g10, g11, g12, g13, g14, g15, g16, g17, g18, g19, g20, g21, g22, g23, g24, g25, g26, g27, g28, g29, g30, g31, g32, g33, g34, g35, g36, g37, g38, g39, g40, g41, g42, g43, g44, g45, g46, g47, g48, g49, g50], []⟩ S (fun v S1 => v = (.tup [(.int .i32 p.1.1), (.int .i64 p.1.2)]) ∧ S1 = p.2) := by
  intro n
  induction n with
  | zero => intro _ _ _ _ _ _ _ _ _ _ _ _ _ _ _ _ _ _ _ _ _ _ _ _ _ _ _ _ _ _ _ _ _ _ _ _ _ _ _ _ _ _ _ _ _ _ _ _ _ _ _ _ _ h; cases h
  | succ n ih =>
    intro y0 y4 y5 y6 S p g1 g2 g3 g7 g8 g9 g10 g11 g12 g13 g14 g15 g16 g17 g18 g19 g20 g21 g22 g23 g24 g25 g26 g27 g28 g29 g30 g31 g32 g33 g34 g35 g36 g37 g38 g39 g40 g41 g42 g43 g44 g45 g46 g47 g48 g49 g50 h
    simp only [L0] at h
    refine hr_inLoop ?_
    refine q_seq rfl ?_
    refine q_seq rfl ?_
    refine q_region rfl rfl ?_
    refine qS 25 rfl (ok_move · (.tmp rfl)) ?_
    refine qS 26 rfl (ok_move · (.tmp rfl)) ?_
    refine qS 27 rfl (ok_ibin · (.tmp rfl) (.tmp rfl) rfl) ?_
    refine hr_region_end ?_
    try dsimp only [w0, w1, w2, w3]
    rcases ifc h with ⟨hc4, h⟩ | ⟨hc4, h⟩
    · refine q_cond_t rfl (.tmp rfl) (decide_eq_true hc4) ?_
      refine q_skipc rfl ?_
      refine q_seq rfl ?_
      refine q_block rfl ?_
      refine q_seq rfl ?_
      refine q_region rfl rfl ?_
      refine qS 30 rfl (ok_move · (.tmp rfl)) ?_
      refine qS 31 rfl (ok_move · (.tmp rfl)) ?_
      obtain ⟨p5, hp5, h⟩ := bindo h
      refine qS 32 rfl (ok_index_s · tu9 (.tmp rfl) (.tmp rfl) hp5) ?_
      obtain ⟨p6, hp6, h⟩ := bindo h
      refine q_call (dst := some 33) rfl (.func _) (.cons (.tmp rfl) Evs.nil) (HInv.static unicode_utf8_RuneStart.at_ unicode_utf8_RuneStart.body (unicode_utf8_RuneStart.snd  hp6)) ?_
      rintro _ _ ⟨rfl, rfl⟩
      refine hr_region_end ?_
      try dsimp only [w0, w1, w2, w3]
      rcases ifc h with ⟨hc7, h⟩ | ⟨hc7, h⟩
      · refine q_cond_t rfl (.tmp rfl) hc7 ?_
        refine q_exit rfl rfl ?_
        try dsimp only [w0, w1, w2, w3]
        exact J1_snd  h
      · refine q_cond_f rfl (.tmp rfl) (bfalse hc7) ?_
        refine q_skipc rfl ?_
        refine hr_inBlock ?_
        refine q_region rfl rfl ?_
        refine qS 28 rfl (ok_move · (.tmp rfl)) ?_
        refine qS 29 rfl (ok_ibin · (.tmp rfl) (.int _ _) rfl) ?_
        refine qS 5 rfl (ok_assign · (.tmp rfl)) ?_
        refine hr_region_end ?_
        try dsimp only [w0, w1, w2, w3]
        try dsimp only [w0, w1, w2, w3]
        exact ih h
    · refine q_cond_f rfl (.tmp rfl) (decide_eq_false hc4) ?_
      refine q_exit rfl rfl ?_
      try dsimp only [w0, w1, w2, w3]
      exact J1_snd  h
def f (k : Nat) (x0 : (List UInt8)) (S : HS) : Option ((Int × Int) × HS) :=
  (if (List.length x0 : Int) = 0 then
  some ((65533, 0), S) else
  (Option.bind (sat x0 (w64 ((List.length x0 : Int) - 1))) fun p2 =>
  (if (IntKind.wrap .i32 (UInt8.toNat p2 : Int)) < 128 then
  some (((IntKind.wrap .i32 (UInt8.toNat p2 : Int)), 1), S) else
  L0 k k x0 (List.length x0 : Int) (w64 ((w64 ((List.length x0 : Int) - 1)) - 1)) (mx (w64 ((List.length x0 : Int) - 4)) 0) S)))
theorem snd {k : Nat} {x0 : (List UInt8)} {S : HS}  {p : (Int × Int) × HS} (h : f k x0 S = some p) : HCall Tryd.prog base W0 β0 62 [(.str x0)] S (fun v S1 => v = (.tup [(.int .i32 p.1.1), (.int .i64 p.1.2)]) ∧ S1 = p.2) := by
  unfold f at h
  refine HCall.of_run at_.at_ body ?_
  show HRun Tryd.prog base W0 β0 62 none [.code c0] ⟨[(.str x0), τ, τ, τ, τ, τ, τ, τ, τ, τ, τ, τ, τ, τ, τ, τ, τ, τ, τ, τ, τ, τ, τ, τ, τ, τ, τ, τ, τ, τ, τ, τ, τ, τ, τ, τ, τ, τ, τ, τ, τ, τ, τ, τ, τ, τ, τ, τ, τ, τ, τ], []⟩ S _
  refine q_seq rfl ?_
  refine q_region rfl rfl ?_
  refine qS 2 rfl (ok_assign · (.int _ _)) ?_
  refine qS 3 rfl (ok_assign · (.int _ _)) ?_
  refine hr_region_end ?_
  try dsimp only [w0, w1, w2, w3]
  refine q_seq rfl ?_
  refine q_region rfl rfl ?_
  refine qS 7 rfl (ok_move · (.tmp rfl)) ?_
  refine qS 8 rfl (ok_len_str · rfl tu9 (.tmp rfl)) ?_
  refine qS 4 rfl (ok_assign · (.tmp rfl)) ?_
  refine hr_region_end ?_
  try dsimp only [w0, w1, w2, w3]
  refine q_seq rfl ?_
  refine q_seq rfl ?_
  refine q_region rfl rfl ?_
  refine qS 9 rfl (ok_move · (.tmp rfl)) ?_
  refine qS 10 rfl (ok_ibin · (.tmp rfl) (.int _ _) rfl) ?_
  refine hr_region_end ?_
  try dsimp only [w0, w1, w2, w3]
  rcases ifc h with ⟨hc1, h⟩ | ⟨hc1, h⟩
  · refine q_cond_t rfl (.tmp rfl) (decide_eq_true hc1) ?_
    refine q_seq rfl ?_
    refine q_region rfl rfl ?_
    refine qS 2 rfl (ok_assign · (.int _ _)) ?_
    refine qS 3 rfl (ok_assign · (.int _ _)) ?_
    refine hr_region_end ?_
    try dsimp only [w0, w1, w2, w3]
    cases h
    exact q_ret rfl at_.at_ rfl (res2 rfl rfl rfl) ⟨rfl, rfl⟩
  · refine q_cond_f rfl (.tmp rfl) (decide_eq_false hc1) ?_
    refine q_skipc rfl ?_
    refine q_seq rfl ?_
    refine q_region rfl rfl ?_
    refine qS 11 rfl (ok_move · (.tmp rfl)) ?_
    refine qS 12 rfl (ok_ibin · (.tmp rfl) (.int _ _) rfl) ?_
    refine qS 5 rfl (ok_assign · (.tmp rfl)) ?_
    refine hr_region_end ?_
    try dsimp only [w0, w1, w2, w3]
    refine q_seq rfl ?_
    refine q_region rfl rfl ?_
    refine qS 13 rfl (ok_move · (.tmp rfl)) ?_
    refine qS 14 rfl (ok_move · (.tmp rfl)) ?_
    obtain ⟨p2, hp2, h⟩ := bindo h
    refine qS 15 rfl (ok_index_s · tu9 (.tmp rfl) (.tmp rfl) hp2) ?_
    refine qS 16 rfl (ok_conv_int · tu5 tu21 (.tmp rfl)) ?_
    try dsimp only [w0, w1, w2, w3]
    refine qS 2 rfl (ok_assign · (.tmp rfl)) ?_
    refine hr_region_end ?_
    try dsimp only [w0, w1, w2, w3]
    refine q_seq rfl ?_
    refine q_seq rfl ?_
    refine q_region rfl rfl ?_
    refine qS 17 rfl (ok_move · (.tmp rfl)) ?_
    refine qS 18 rfl (ok_ibin · (.tmp rfl) (.int _ _) rfl) ?_
    refine hr_region_end ?_
    try dsimp only [w0, w1, w2, w3]
    rcases ifc h with ⟨hc3, h⟩ | ⟨hc3, h⟩
    · refine q_cond_t rfl (.tmp rfl) (decide_eq_true hc3) ?_
      refine q_seq rfl ?_
      refine q_region rfl rfl ?_
      refine qS 19 rfl (ok_move · (.tmp rfl)) ?_
      refine qS 2 rfl (ok_assign · (.tmp rfl)) ?_
      refine qS 3 rfl (ok_assign · (.int _ _)) ?_
      refine hr_region_end ?_
      try dsimp only [w0, w1, w2, w3]
      cases h
      exact q_ret rfl at_.at_ rfl (res2 rfl rfl rfl) ⟨rfl, rfl⟩
    · refine q_cond_f rfl (.tmp rfl) (decide_eq_false hc3) ?_
      refine q_skipc rfl ?_
      refine q_seq rfl ?_
      refine q_region rfl rfl ?_
      refine qS 20 rfl (ok_move · (.tmp rfl)) ?_
      refine qS 21 rfl (ok_ibin · (.tmp rfl) (.int _ _) rfl) ?_
      refine qS 22 rfl (ok_max · (.tmp rfl) (.int _ _)) ?_
      refine qS 6 rfl (ok_assign · (.tmp rfl)) ?_
      refine hr_region_end ?_
      try dsimp only [w0, w1, w2, w3]
      refine q_seq rfl ?_
      refine q_seq rfl ?_
      refine q_region rfl rfl ?_
      refine qS 23 rfl (ok_move · (.tmp rfl)) ?_
      refine qS 24 rfl (ok_ibin · (.tmp rfl) (.int _ _) rfl) ?_
      refine qS 5 rfl (ok_assign · (.tmp rfl)) ?_
      refine hr_region_end ?_
      try dsimp only [w0, w1, w2, w3]
      refine q_block rfl ?_
      refine q_loop rfl ?_
      try dsimp only [w0, w1, w2, w3]
      exact L0_snd  h
end
end unicode_utf8_DecodeLastRuneInString
end Go.Proofs.YtgplnlknejbglaaDoor.X
