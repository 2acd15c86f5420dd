/- Functions of the library, by the kit's contracts, laid at this program. Functions of the program, each as a Lean function over the layer HL: a call answers what the Lean function answers, where it answers. -/
import Derived.Test.YtcphapfclncggaaGreatDoorProg
import Derived.Shelf.Strings.Count
import Derived.Test.YtcphapfclncggaaGreatDoorPart8
namespace Go.Proofs.YtcphapfclncggaaGreatDoor.X
open Go.Proofs.YtcphapfclncggaaGreatDoor.HL Go.RowKit
set_option linter.unusedVariables false
set_option maxRecDepth 100000
def ren : Go.Shelf.Ren := ⟨(fun | 138 => 71 | 143 => 69 | 195 => 86 | 217 => 68 | 218 => 88 | 219 => 85 | 224 => 103 | 225 => 102 | 266 => 84 | 267 => 104 | 314 => 109 | n => n),(fun | 0 => 0 | 3 => 3 | 4 => 4 | 5 => 5 | 9 => 9 | 46 => 120 | 51 => 130 | 146 => 131 | n => n),(fun | 1 => 0 | n => n)⟩
theorem lays138 : Go.Proofs.Lays.n138 Tryz.prog ren :=
 { mixed := by kernel_rfl,f138 := Tryz.func71.trans (congrArg some (by kernel_rfl)),f143 := Tryz.func69.trans (congrArg some (by kernel_rfl)),f195 := Tryz.func86.trans (congrArg some (by kernel_rfl)),f217 := Tryz.func68.trans (congrArg some (by kernel_rfl)),f218 := Tryz.func88.trans (congrArg some (by kernel_rfl)),f219 := Tryz.func85.trans (congrArg some (by kernel_rfl)),f224 := Tryz.func103.trans (congrArg some (by kernel_rfl)),f225 := Tryz.func102.trans (congrArg some (by kernel_rfl)),f266 := Tryz.func84.trans (congrArg some (by kernel_rfl)),f267 := Tryz.func104.trans (congrArg some (by kernel_rfl)),f314 := Tryz.func109.trans (congrArg some (by kernel_rfl)),t0 := Tryz.underlying0,a0 := Tryz.isAgg0,z0 := Tryz.sizeOf0,v0 := Tryz.zeroValue0,t3 := Tryz.underlying3,a3 := Tryz.isAgg3,z3 := Tryz.sizeOf3,v3 := Tryz.zeroValue3,t4 := Tryz.underlying4,a4 := Tryz.isAgg4,z4 := Tryz.sizeOf4,v4 := Tryz.zeroValue4,t5 := Tryz.underlying5,a5 := Tryz.isAgg5,z5 := Tryz.sizeOf5,v5 := Tryz.zeroValue5,t9 := Tryz.underlying9,a9 := Tryz.isAgg9,z9 := Tryz.sizeOf9,v9 := Tryz.zeroValue9,t46 := Tryz.underlying120,a46 := Tryz.isAgg120,z46 := Tryz.sizeOf120,v46 := Tryz.zeroValue120,t51 := Tryz.underlying130,a51 := Tryz.isAgg130,z51 := Tryz.sizeOf130,v51 := Tryz.zeroValue130,t146 := Tryz.underlying131,a146 := Tryz.isAgg131,z146 := Tryz.sizeOf131,v146 := Tryz.zeroValue131,g1 := by kernel_rfl }
namespace strings_Count
theorem at_ : FnAt Tryz.prog 71 Tryz.f71 := ⟨Tryz.func71,by kernel_rfl⟩
theorem body : Tryz.f71.body = some ((Tryz.f71.body).getD .skip) := by kernel_rfl
def f (x0 : (List UInt8)) (x1 : (List UInt8)) : Option Int := match x1 with
 | [c] => some (Lib.countByte x0 c : Int)
 | _ => none
theorem snd {base : Nat} {W0 : World} {β0 : Bt} {x0 : (List UInt8)} {x1 : (List UInt8)} {S : HS} {p : Int} (h : f x0 x1 = some p) : HCall Tryz.prog base W0 β0 71 [(.str x0),(.str x1)] S (fun v S1 => v = (.int .i64 p) ∧ S1 = S) := by
 unfold f at h
 split at h
 ·cases h
  refine HCall.of_calls fun β w args' hr ha => ?_
  obtain ⟨u1,u2,rfl,r1,r2⟩ := ha.two
  cases r1; cases r2
  exact ⟨_,.int _ _,(Any.strings_Count_one lays138 _ _ w).mono fun e w' ⟨he,hw⟩ => ⟨he,hw ▸ Below.refl _ _⟩⟩
 ·cases h
end strings_Count
end Go.Proofs.YtcphapfclncggaaGreatDoor.X
namespace Go.Proofs.YtcphapfclncggaaGreatDoor.X
open Go.Proofs.YtcphapfclncggaaGreatDoor.HL
set_option linter.unusedVariables false
set_option linter.unusedSimpArgs false
set_option maxRecDepth 20000
set_option maxHeartbeats 4000000
theorem ext84 : ExtAt Tryz.prog 84 Extern.BytealgIndexByte.indexByte := ⟨Tryz.f84,Tryz.func84,by kernel_rfl,by kernel_rfl,by kernel_rfl,by kernel_rfl⟩
theorem tu9 : Tryz.prog.underlying 9 = some .string := by kernel_rfl
theorem tu5 : Tryz.prog.underlying 5 = some (.int .u8) := by kernel_rfl
theorem tu130 : Tryz.prog.underlying 130 = some (.int .u32) := by kernel_rfl
theorem tu21 : Tryz.prog.underlying 21 = some (.int .i32) := by kernel_rfl
theorem el38 : ElemAt Tryz.prog 38 9 1 [(.str [])] := elemAt_mk (zv := (.string ⟨#[]⟩)) (by_ := 16) (by kernel_rfl) (by kernel_rfl) (by decide) (fun β => VRels.cons (.str []) (VRels.nil β)) rfl (by decide) rfl
theorem tu38 : Tryz.prog.underlying 38 = some (.slice 9) := by kernel_rfl
theorem sz9 : ∃ q,Tryz.prog.info? 9 = some q ∧ q.size = 1 := size_mk' (by kernel_rfl)
theorem si9 : SizeIs Tryz.prog 9 1 16 := sizeIs_mk (by kernel_rfl)
theorem tu3 : Tryz.prog.underlying 3 = some (.int .i64) := by kernel_rfl
theorem za107 : (Tryz.prog.info? 107).map (·.zero) = some (some (.agg (Array.replicate 256 (.int .u16 0)))) := by kernel_rfl
theorem ta107 : Tryz.prog.underlying 107 = some (.array 256 94) := by kernel_rfl
theorem sz94 : ∃ q,Tryz.prog.info? 94 = some q ∧ q.size = 1 := size_mk' (by kernel_rfl)
theorem sc94 : Scalar Tryz.prog 94 := ⟨(.int .u16),by kernel_rfl,trivial⟩
theorem ia107 : IsAgg Tryz.prog 107 256 := isAgg_mk2 (by kernel_rfl) (by kernel_rfl)
theorem sz107 : ∃ q,Tryz.prog.info? 107 = some q ∧ q.size = 256 := size_mk' (by kernel_rfl)
theorem sc9 : Scalar Tryz.prog 9 := ⟨.string,by kernel_rfl,trivial⟩
theorem st54 : StructAt Tryz.prog 54 [(0,1),(1,1)] [(.int .u8 0),(.str [])] := structAt_mk (zv := (.agg #[(.int .u8 0),(.string ⟨#[]⟩)])) (by kernel_rfl) (by kernel_rfl) (fun β => VRels.cons (.int _ _) (VRels.cons (.str []) (VRels.nil β)))
theorem el51 : ElemAt Tryz.prog 51 54 2 [(.int .u8 0),(.str [])] := elemAt_mk (zv := (.agg #[(.int .u8 0),(.string ⟨#[]⟩)])) (by_ := 24) (by kernel_rfl) (by kernel_rfl) (by decide) (fun β => VRels.cons (.int _ _) (VRels.cons (.str []) (VRels.nil β))) rfl (by decide) rfl
theorem tu51 : Tryz.prog.underlying 51 = some (.slice 54) := by kernel_rfl
theorem sz54 : ∃ q,Tryz.prog.info? 54 = some q ∧ q.size = 2 := size_mk' (by kernel_rfl)
theorem ia54 : IsAgg Tryz.prog 54 2 := isAgg_mk2 (by kernel_rfl) (by kernel_rfl)
theorem eg54 : Tryz.prog.eqGuardType Tryz.prog.depth 54 = false := by kernel_rfl
theorem sk54 : structChk Tryz.prog 54 [0,1] = true := by kernel_rfl
theorem tu22 : Tryz.prog.underlying 22 = some (.slice 32) := by kernel_rfl
theorem sz32 : ∃ q,Tryz.prog.info? 32 = some q ∧ q.size = 3 := size_mk' (by kernel_rfl)
theorem fi32_2 : fieldInfo Tryz.prog 32 2 = some (2,9,1) := by kernel_rfl
theorem st81 : StructAt Tryz.prog 81 [(0,1),(1,1),(2,1),(3,1)] [(.int .i64 0),(.int .i64 0),(.map none),(.map none)] := structAt_mk (zv := (.agg #[(.int .i64 0),(.int .i64 0),(.map none),(.map none)])) (by kernel_rfl) (by kernel_rfl) (fun β => VRels.cons (.int _ _) (VRels.cons (.int _ _) (VRels.cons (.mapNil) (VRels.cons (.mapNil) (VRels.nil β)))))
theorem st60 : StructAt Tryz.prog 60 [(0,1),(1,1)] [(.ptr none),(.map none)] := structAt_mk (zv := (.agg #[(.pointer none),(.map none)])) (by kernel_rfl) (by kernel_rfl) (fun β => VRels.cons (.ptrNil) (VRels.cons (.mapNil) (VRels.nil β)))
theorem el82 : ElemAt Tryz.prog 82 5 1 [(.int .u8 0)] := elemAt_mk (zv := (.int .u8 0)) (by_ := 1) (by kernel_rfl) (by kernel_rfl) (by decide) (fun β => VRels.cons (.int _ _) (VRels.nil β)) rfl (by decide) rfl
theorem tu82 : Tryz.prog.underlying 82 = some (.slice 5) := by kernel_rfl
theorem tu120 : Tryz.prog.underlying 120 = some (.int .u64) := by kernel_rfl
theorem tu87 : Tryz.prog.underlying 87 = some (.pointer 103) := by kernel_rfl
theorem fi103_0 : fieldInfo Tryz.prog 103 0 = some (0,38,1) := by kernel_rfl
theorem sc38 : Scalar Tryz.prog 38 := ⟨(.slice 9),by kernel_rfl,trivial⟩
theorem tu55 : Tryz.prog.underlying 55 = some (.pointer 81) := by kernel_rfl
theorem fi81_2 : fieldInfo Tryz.prog 81 2 = some (2,78,1) := by kernel_rfl
theorem sc78 : Scalar Tryz.prog 78 := ⟨(.map 3 87),by kernel_rfl,trivial⟩
theorem tu78 : Tryz.prog.underlying 78 = some (.map 3 87) := by kernel_rfl
theorem zi87 : (Tryz.prog.info? 87).map (·.zero) = some (some (.pointer none)) := by kernel_rfl
theorem sz38 : ∃ q,Tryz.prog.info? 38 = some q ∧ q.size = 1 := size_mk' (by kernel_rfl)
theorem tu41 : Tryz.prog.underlying 41 = some (.slice 3) := by kernel_rfl
theorem sz3 : ∃ q,Tryz.prog.info? 3 = some q ∧ q.size = 1 := size_mk' (by kernel_rfl)
theorem sc3 : Scalar Tryz.prog 3 := ⟨(.int .i64),by kernel_rfl,trivial⟩
theorem si3 : SizeIs Tryz.prog 3 1 8 := sizeIs_mk (by kernel_rfl)
theorem el41 : ElemAt Tryz.prog 41 3 1 [(.int .i64 0)] := elemAt_mk (zv := (.int .i64 0)) (by_ := 8) (by kernel_rfl) (by kernel_rfl) (by decide) (fun β => VRels.cons (.int _ _) (VRels.nil β)) rfl (by decide) rfl
theorem tu96 : Tryz.prog.underlying 96 = some (.pointer 112) := by kernel_rfl
theorem fi112_0 : fieldInfo Tryz.prog 112 0 = some (0,41,1) := by kernel_rfl
theorem sc41 : Scalar Tryz.prog 41 := ⟨(.slice 3),by kernel_rfl,trivial⟩
theorem sz41 : ∃ q,Tryz.prog.info? 41 = some q ∧ q.size = 1 := size_mk' (by kernel_rfl)
theorem tu79 : Tryz.prog.underlying 79 = some (.map 9 96) := by kernel_rfl
theorem zi96 : (Tryz.prog.info? 96).map (·.zero) = some (some (.pointer none)) := by kernel_rfl
theorem fi81_3 : fieldInfo Tryz.prog 81 3 = some (3,79,1) := by kernel_rfl
theorem sc79 : Scalar Tryz.prog 79 := ⟨(.map 9 96),by kernel_rfl,trivial⟩
theorem fi81_1 : fieldInfo Tryz.prog 81 1 = some (1,3,1) := by kernel_rfl
theorem tu25 : Tryz.prog.underlying 25 = some (.pointer 60) := by kernel_rfl
theorem fi60_1 : fieldInfo Tryz.prog 60 1 = some (1,58,1) := by kernel_rfl
theorem sc58 : Scalar Tryz.prog 58 := ⟨(.map 63 9),by kernel_rfl,trivial⟩
theorem st63 : StructAt Tryz.prog 63 [(0,1),(1,1)] [(.int .i64 0),(.str [])] := structAt_mk (zv := (.agg #[(.int .i64 0),(.string ⟨#[]⟩)])) (by kernel_rfl) (by kernel_rfl) (fun β => VRels.cons (.int _ _) (VRels.cons (.str []) (VRels.nil β)))
theorem sk63 : structChk Tryz.prog 63 [0,1] = true := by kernel_rfl
theorem tu58 : Tryz.prog.underlying 58 = some (.map 63 9) := by kernel_rfl
theorem fi60_0 : fieldInfo Tryz.prog 60 0 = some (0,55,1) := by kernel_rfl
theorem sc55 : Scalar Tryz.prog 55 := ⟨(.pointer 81),by kernel_rfl,trivial⟩
theorem fi30_1 : fieldInfo Tryz.prog 30 1 = some (1,28,1) := by kernel_rfl
theorem sc28 : Scalar Tryz.prog 28 := ⟨(.slice 68),by kernel_rfl,trivial⟩
theorem tu28 : Tryz.prog.underlying 28 = some (.slice 68) := by kernel_rfl
theorem sz68 : ∃ q,Tryz.prog.info? 68 = some q ∧ q.size = 2 := size_mk' (by kernel_rfl)
theorem fi68_0 : fieldInfo Tryz.prog 68 0 = some (0,3,1) := by kernel_rfl
theorem fi68_1 : fieldInfo Tryz.prog 68 1 = some (1,9,1) := by kernel_rfl
theorem el28 : ElemAt Tryz.prog 28 68 2 [(.int .i64 0),(.str [])] := elemAt_mk (zv := (.agg #[(.int .i64 0),(.string ⟨#[]⟩)])) (by_ := 24) (by kernel_rfl) (by kernel_rfl) (by decide) (fun β => VRels.cons (.int _ _) (VRels.cons (.str []) (VRels.nil β))) rfl (by decide) rfl
theorem si68 : SizeIs Tryz.prog 68 2 24 := sizeIs_mk (by kernel_rfl)
theorem sz28 : ∃ q,Tryz.prog.info? 28 = some q ∧ q.size = 1 := size_mk' (by kernel_rfl)
theorem zi38 : (Tryz.prog.info? 38).map (·.zero) = some (some (.slice none 0 0)) := by kernel_rfl
theorem zr38 : ∀ β,VRels β [(Sl.hv Sl.nil)] (Value.cells (.slice none 0 0)) := fun β => VRels.cons (.slNil none) (VRels.nil β)
theorem sc25 : Scalar Tryz.prog 25 := ⟨(.pointer 60),by kernel_rfl,trivial⟩
theorem zi9 : (Tryz.prog.info? 9).map (·.zero) = some (some (.string ⟨#[]⟩)) := by kernel_rfl
theorem zi3 : (Tryz.prog.info? 3).map (·.zero) = some (some (.int .i64 0)) := by kernel_rfl
theorem zr3 : ∀ β,VRels β [(.int .i64 0)] (Value.cells (.int .i64 0)) := fun β => VRels.cons (.int _ _) (VRels.nil β)
theorem ext95 : ExtAt Tryz.prog 95 (Extern.SlicesOverlaps.overlaps #[38,38] #[4]) := ⟨Tryz.f95,Tryz.func95,by kernel_rfl,by kernel_rfl,by kernel_rfl,by kernel_rfl⟩
theorem st103 : StructAt Tryz.prog 103 [(0,1)] [(Sl.hv Sl.nil)] := structAt_mk (zv := (.agg #[(.slice none 0 0)])) (by kernel_rfl) (by kernel_rfl) (fun β => VRels.cons (.slNil none) (VRels.nil β))
theorem ext97 : ExtAt Tryz.prog 97 (Extern.SlicesOverlaps.overlaps #[41,41] #[4]) := ⟨Tryz.f97,Tryz.func97,by kernel_rfl,by kernel_rfl,by kernel_rfl,by kernel_rfl⟩
theorem st112 : StructAt Tryz.prog 112 [(0,1)] [(Sl.hv Sl.nil)] := structAt_mk (zv := (.agg #[(.slice none 0 0)])) (by kernel_rfl) (by kernel_rfl) (fun β => VRels.cons (.slNil none) (VRels.nil β))
theorem fi81_0 : fieldInfo Tryz.prog 81 0 = some (0,3,1) := by kernel_rfl
theorem fi30_0 : fieldInfo Tryz.prog 30 0 = some (0,3,1) := by kernel_rfl
theorem st68 : StructAt Tryz.prog 68 [(0,1),(1,1)] [(.int .i64 0),(.str [])] := structAt_mk (zv := (.agg #[(.int .i64 0),(.string ⟨#[]⟩)])) (by kernel_rfl) (by kernel_rfl) (fun β => VRels.cons (.int _ _) (VRels.cons (.str []) (VRels.nil β)))
theorem zi4 : (Tryz.prog.info? 4).map (·.zero) = some (some (.bool false)) := by kernel_rfl
theorem zr4 : ∀ β,VRels β [(.bool false)] (Value.cells (.bool false)) := fun β => VRels.cons (.bool _) (VRels.nil β)
theorem tu65 : Tryz.prog.underlying 65 = some (.func #[77] #[] false) := by kernel_rfl
theorem sz4 : ∃ q,Tryz.prog.info? 4 = some q ∧ q.size = 1 := size_mk' (by kernel_rfl)
theorem sc4 : Scalar Tryz.prog 4 := ⟨.bool,by kernel_rfl,trivial⟩
theorem zi41 : (Tryz.prog.info? 41).map (·.zero) = some (some (.slice none 0 0)) := by kernel_rfl
theorem zr41 : ∀ β,VRels β [(Sl.hv Sl.nil)] (Value.cells (.slice none 0 0)) := fun β => VRels.cons (.slNil none) (VRels.nil β)
theorem tu70 : Tryz.prog.underlying 70 = some (.func #[86] #[] false) := by kernel_rfl
theorem st30 : StructAt Tryz.prog 30 [(0,1),(1,1)] [(.int .i64 0),(Sl.hv Sl.nil)] := structAt_mk (zv := (.agg #[(.int .i64 0),(.slice none 0 0)])) (by kernel_rfl) (by kernel_rfl) (fun β => VRels.cons (.int _ _) (VRels.cons (.slNil none) (VRels.nil β)))
theorem ia32 : IsAgg Tryz.prog 32 3 := isAgg_mk2 (by kernel_rfl) (by kernel_rfl)
theorem zi32 : (Tryz.prog.info? 32).map (·.zero) = some (some (.agg #[(.int .i64 0),(.int .i64 0),(.string ⟨#[]⟩)])) := by kernel_rfl
theorem zr32 : ∀ β,VRels β [(.int .i64 0),(.int .i64 0),(.str [])] (Value.cells (.agg #[(.int .i64 0),(.int .i64 0),(.string ⟨#[]⟩)])) := fun β => VRels.cons (.int _ _) (VRels.cons (.int _ _) (VRels.cons (.str []) (VRels.nil β)))
theorem fi32_0 : fieldInfo Tryz.prog 32 0 = some (0,3,1) := by kernel_rfl
theorem fi32_1 : fieldInfo Tryz.prog 32 1 = some (1,3,1) := by kernel_rfl
theorem tu4 : Tryz.prog.underlying 4 = some .bool := by kernel_rfl
namespace internal_stringslite_IndexByte
theorem at_ : FnAt Tryz.prog 68 Tryz.f68 := ⟨Tryz.func68,by kernel_rfl⟩
noncomputable def d0 := (Tryz.f68.body).getD .skip
noncomputable def r1 := kR (kA d0)
noncomputable def r3 := kR (kA (kB d0))
noncomputable def c0 : Code := .seq (.region 0 r1 false) (.seq (.region 1 r3 false) .ret)
theorem body : Tryz.f68.body = some c0 := by kernel_rfl
section
variable {base : Nat} {W0 : World} {β0 : Bt}
def f (x0 : (List UInt8)) (x1 : Int) : Option (Int) :=
 some (bidx x0 x1)
theorem snd {x0 : (List UInt8)} {x1 : Int} {S : HS}  {p : Int} (h : f x0 x1 = some p) : HCall Tryz.prog base W0 β0 68 [(.str x0),(.int .u8 x1)] S (fun v S1 => v = (.int .i64 p) ∧ S1 = S) := by
 unfold f at h
 refine HCall.of_run at_.at_ body ?_
 show HRun Tryz.prog base W0 β0 68 none [.code c0] ⟨[(.str x0),(.int .u8 x1),τ,τ,τ,τ,τ,τ],[]⟩ S _
 refine qQ rfl (qR rfl rfl (qS 4 rfl (ok_assign · (.int _ _)) (rE ?_)))
 try dsimp only [w0,w1,w2,w3]
 refine qQ rfl (qR rfl rfl (qS 5 rfl (oM · rfl) (qS 6 rfl (oM · rfl) (qS 7 rfl (ok_idxByte · ext84 (.tmp rfl) (.tmp rfl)) (qS 4 rfl (oA · rfl) (rE ?_))))))
 try dsimp only [w0,w1,w2,w3]
 cases h
 exact q_ret rfl at_.at_ rfl (res1 rfl rfl) ⟨rfl,rfl⟩
end
end internal_stringslite_IndexByte
namespace strings_IndexByte
theorem at_ : FnAt Tryz.prog 51 Tryz.f51 := ⟨Tryz.func51,by kernel_rfl⟩
noncomputable def d0 := (Tryz.f51.body).getD .skip
noncomputable def r1 := kR (kA d0)
noncomputable def r3 := kR (kA (kB d0))
noncomputable def c0 : Code := .seq (.region 0 r1 false) (.seq (.region 1 r3 false) .ret)
theorem body : Tryz.f51.body = some c0 := by kernel_rfl
section
variable {base : Nat} {W0 : World} {β0 : Bt}
def f (x0 : (List UInt8)) (x1 : Int) : Option (Int) :=
 (Option.bind (internal_stringslite_IndexByte.f x0 x1) fun p1 =>
 some p1)
theorem snd {x0 : (List UInt8)} {x1 : Int} {S : HS}  {p : Int} (h : f x0 x1 = some p) : HCall Tryz.prog base W0 β0 51 [(.str x0),(.int .u8 x1)] S (fun v S1 => v = (.int .i64 p) ∧ S1 = S) := by
 unfold f at h
 refine HCall.of_run at_.at_ body ?_
 show HRun Tryz.prog base W0 β0 51 none [.code c0] ⟨[(.str x0),(.int .u8 x1),τ,τ,τ,τ,τ,τ],[]⟩ S _
 refine qQ rfl (qR rfl rfl (qS 4 rfl (ok_assign · (.int _ _)) (rE ?_)))
 try dsimp only [w0,w1,w2,w3]
 obtain ⟨p1,hp1,h⟩ := bindo h
 refine qQ rfl (qR rfl rfl (qS 5 rfl (oM · rfl) (qS 6 rfl (oM · rfl) (q_call (dst := some 7) rfl (.func _) (.cons (.tmp rfl) (.cons (.tmp rfl) Evs.nil)) (HInv.static internal_stringslite_IndexByte.at_ internal_stringslite_IndexByte.body (internal_stringslite_IndexByte.snd  hp1)) ?_))))
 rintro _ _ ⟨rfl,rfl⟩
 refine qS 4 rfl (oA · rfl) (rE ?_)
 try dsimp only [w0,w1,w2,w3]
 cases h
 exact q_ret rfl at_.at_ rfl (res1 rfl rfl) ⟨rfl,rfl⟩
end
end strings_IndexByte
namespace internal_bytealg_Cutover
section
variable {base : Nat} {W0 : World} {β0 : Bt}
end
end internal_bytealg_Cutover
namespace internal_bytealg_hashStr_string
theorem at_ : FnAt Tryz.prog 109 Tryz.f109 := ⟨Tryz.func109,by kernel_rfl⟩
noncomputable def d0 := (Tryz.f109.body).getD .skip
noncomputable def r1 := kR (kA d0)
noncomputable def r3 := kR (kA (kB d0))
noncomputable def d5 := kA (kB (kB d0))
noncomputable def r6 := kR (kA d5)
noncomputable def r11 := kR (kA (kA (kA (kA (kB d5)))))
noncomputable def r17 := kR (kA (kA (kB (kA (kA (kB d5))))))
noncomputable def r18 := kR (kB (kB (kA (kA (kB d5)))))
noncomputable def d19 := kB (kB (kB d0))
noncomputable def r20 := kR (kA d19)
noncomputable def r23 := kR (kA (kA (kB d19)))
noncomputable def d24 := kB (kA (kB d19))
noncomputable def r28 := kR (kA (kA (kA (kA d24))))
noncomputable def d32 := kB (kA (kA d24))
noncomputable def r36 := kR (kA (kA (kA (kA d32))))
noncomputable def r38 := kR (kA (kB (kA (kA (kA d32)))))
noncomputable def r40 := kR (kB (kA (kA d32)))
noncomputable def r41 := kR (kB d32)
noncomputable def r43 := kR (kA (kB (kB d19)))
noncomputable def c42 : Code := .seq (.region 13 r43 false) .ret
noncomputable def c41 : Code := .region 9 r41 false
noncomputable def c40 : Code := .region 12 r40 false
noncomputable def c26 : Code := .seq (.seq (.region 8 r28 false) (.cond (.tmp 25) .skip (.exit 2))) (.seq (.block 3 (.seq (.seq (.region 10 r36 false) (.cond (.tmp 30) (.region 11 r38 false) .skip)) c40)) c41)
noncomputable def c19 : Code := .seq (.region 6 r20 false) (.seq (.seq (.region 7 r23 false) (.block 2 (.loop c26))) c42)
noncomputable def c9 : Code := .seq (.seq (.region 3 r11 false) (.cond (.tmp 12) .skip (.exit 0))) (.seq (.block 1 (.region 5 r17 false)) (.region 4 r18 false))
noncomputable def c0 : Code := .seq (.region 0 r1 false) (.seq (.region 1 r3 false) (.seq (.seq (.region 2 r6 false) (.block 0 (.loop c9))) c19))
theorem body : Tryz.f109.body = some c0 := by kernel_rfl
section
variable {base : Nat} {W0 : World} {β0 : Bt}
def J2 (k : Nat) (rec0 : Int → Int → Int → Int → Option (Int × Int)) (y4 : Int) (y6 : Int) (y7 : Int) (y8 : Int) : Option (Int × Int) :=
 rec0 y4 y6 (IntKind.wrap .u32 (y7 * y7)) (Int.fdiv y8 (2 ^ (min (Int.toNat 1) (IntKind.bits .i64))))
theorem J2_snd {k : Nat} {rec0 : Int → Int → Int → Int → Option (Int × Int)} (hrec0 : ∀ ⦃y4 : Int⦄ ⦃y6 : Int⦄ ⦃y7 : Int⦄ ⦃y8 : Int⦄ ⦃S : HS⦄ ⦃p : Int × Int⦄ ⦃Ga Gb Gc Gd Gf Gj Gk Gl Gm Gn Go Gp Gq Gr Gs Gt Gu Gv Gw Gx Gy Gz Ka Kb Kc Kd Ke Kf Kg Kh Ki Kj Kk Kl Km : HV⦄,rec0 y4 y6 y7 y8 = some p → HRun Tryz.prog base W0 β0 109 none [.inLoop c26,.inBlock 2,.code c42] ⟨[Ga,Gb,Gc,Gd,(.int .u32 y4),Gf,(.int .u32 y6),(.int .u32 y7),(.int .i64 y8),Gj,Gk,Gl,Gm,Gn,Go,Gp,Gq,Gr,Gs,Gt,Gu,Gv,Gw,Gx,Gy,Gz,Ka,Kb,Kc,Kd,Ke,Kf,Kg,Kh,Ki,Kj,Kk,Kl,Km],[]⟩ S (fun v S1 => v = (.tup [(.int .u32 p.1),(.int .u32 p.2)]) ∧ S1 = S)) {y4 : Int} {y6 : Int} {y7 : Int} {y8 : Int} {S : HS} {p : Int × Int} {Ga Gb Gc Gd Gf Gj Gk Gl Gm Gn Go Gp Gq Gr Gs Gt Gu Gv Gw Gx Gy Gz Ka Kb Kc Kd Ke Kf Kg Kh Ki Kj Kk Kl Km : HV} (h : J2 k rec0 y4 y6 y7 y8 = some p) : HRun Tryz.prog base W0 β0 109 none [.code c40,.inBlock 3,.code c41,.inLoop c26,.inBlock 2,.code c42] ⟨[Ga,Gb,Gc,Gd,(.int .u32 y4),Gf,(.int .u32 y6),(.int .u32 y7),(.int .i64 y8),Gj,Gk,Gl,Gm,Gn,Go,Gp,Gq,Gr,Gs,Gt,Gu,Gv,Gw,Gx,Gy,Gz,Ka,Kb,Kc,Kd,Ke,Kf,Kg,Kh,Ki,Kj,Kk,Kl,Km],[]⟩ S (fun v S1 => v = (.tup [(.int .u32 p.1),(.int .u32 p.2)]) ∧ S1 = S) := by
 unfold J2 at h
 refine qR rfl rfl (qS 34 rfl (oM · rfl) (qS 35 rfl (oM · rfl) (qS 36 rfl (oB · rfl rfl rfl) (qS 7 rfl (oA · rfl) (rE ?_)))))
 try dsimp only [w0,w1,w2,w3]
 refine hr_inBlock (qR rfl rfl (qS 26 rfl (oM · rfl) (qS 27 rfl (ok_shr · (.tmp rfl) (.int _ _) (by decide)) (qS 8 rfl (oA · rfl) (rE ?_)))))
 try dsimp only [w0,w1,w2,w3]
 try dsimp only [w0,w1,w2,w3]
 exact hrec0 h
def L1 (k : Nat) : Nat → Int → Int → Int → Int → Option (Int × Int)
 | 0,_,_,_,_ => none
 | n + 1,y4,y6,y7,y8 =>
  (if y8 > 0 then
  (if (!decide ((iand .i64 y8 1) = 0)) = true then
  J2 k (L1 k n) y4 (IntKind.wrap .u32 (y6 * y7)) y7 y8 else
  J2 k (L1 k n) y4 y6 y7 y8) else
  some (y4,y6))
theorem L1_snd {k : Nat}  : ∀ {n : Nat} ⦃y4 : Int⦄ ⦃y6 : Int⦄ ⦃y7 : Int⦄ ⦃y8 : Int⦄ ⦃S : HS⦄ ⦃p : Int × Int⦄ ⦃Ga Gb Gc Gd Gf Gj Gk Gl Gm Gn Go Gp Gq Gr Gs Gt Gu Gv Gw Gx Gy Gz Ka Kb Kc Kd Ke Kf Kg Kh Ki Kj Kk Kl Km : HV⦄,L1 k n y4 y6 y7 y8 = some p → HRun Tryz.prog base W0 β0 109 none [.inLoop c26,.inBlock 2,.code c42] ⟨[Ga,Gb,Gc,Gd,(.int .u32 y4),Gf,(.int .u32 y6),(.int .u32 y7),(.int .i64 y8),Gj,Gk,Gl,Gm,Gn,Go,Gp,Gq,Gr,Gs,Gt,Gu,Gv,Gw,Gx,Gy,Gz,Ka,Kb,Kc,Kd,Ke,Kf,Kg,Kh,Ki,Kj,Kk,Kl,Km],[]⟩ S (fun v S1 => v = (.tup [(.int .u32 p.1),(.int .u32 p.2)]) ∧ S1 = S) := by
 intro n
 induction n with
 | zero => intro _ _ _ _ _ _ _ _ _ _ _ _ _ _ _ _ _ _ _ _ _ _ _ _ _ _ _ _ _ _ _ _ _ _ _ _ _ _ _ _ _ h; cases h
 | succ n ih =>
  intro y4 y6 y7 y8 S p Ga Gb Gc Gd Gf Gj Gk Gl Gm Gn Go Gp Gq Gr Gs Gt Gu Gv Gw Gx Gy Gz Ka Kb Kc Kd Ke Kf Kg Kh Ki Kj Kk Kl Km h
  simp only [L1] at h
  refine hr_inLoop (qQ rfl (qQ rfl (qR rfl rfl (qS 24 rfl (oM · rfl) (qS 25 rfl (oC · rfl rfl) (rE ?_))))))
  try dsimp only [w0,w1,w2,w3]
  rcases ifc h with ⟨hc3,h⟩ | ⟨hc3,h⟩
  ·refine q_cond_t rfl (.tmp rfl) (decide_eq_true hc3) (q_skipc rfl (qQ rfl (q_block rfl (qQ rfl (qQ rfl (qR rfl rfl (qS 28 rfl (oM · rfl) (qS 29 rfl (oC · rfl rfl) (qS 30 rfl (oC · rfl rfl) (rE ?_))))))))))
   try dsimp only [w0,w1,w2,w3]
   rcases ifc h with ⟨hc4,h⟩ | ⟨hc4,h⟩
   ·refine q_cond_t rfl (.tmp rfl) hc4 (qR rfl rfl (qS 31 rfl (oM · rfl) (qS 32 rfl (oM · rfl) (qS 33 rfl (oB · rfl rfl rfl) (qS 6 rfl (oA · rfl) (rE ?_))))))
    try dsimp only [w0,w1,w2,w3]
    try dsimp only [w0,w1,w2,w3]
    exact J2_snd ih h
   ·refine q_cond_f rfl (.tmp rfl) (bfalse hc4) (q_skipc rfl ?_)
    try dsimp only [w0,w1,w2,w3]
    exact J2_snd ih h
  ·refine q_cond_f rfl (.tmp rfl) (decide_eq_false hc3) (q_exit rfl rfl (qQ rfl (qR rfl rfl (qS 37 rfl (oM · rfl) (qS 38 rfl (oM · rfl) (qS 2 rfl (oA · rfl) (qS 3 rfl (oA · rfl) (rE ?_))))))))
   try dsimp only [w0,w1,w2,w3]
   cases h
   exact q_ret rfl at_.at_ rfl (res2 rfl rfl rfl) ⟨rfl,rfl⟩
def L0 (k : Nat) : Nat → (List UInt8) → Int → Int → Option (Int × Int)
 | 0,_,_,_ => none
 | n + 1,y0,y4,y5 =>
  (if y5 < (List.length y0 : Int) then
  (Option.bind (sat y0 y5) fun p2 =>
  (L0 k n) y0 (IntKind.wrap .u32 ((IntKind.wrap .u32 (y4 * 16777619)) + (IntKind.wrap .u32 (UInt8.toNat p2 : Int)))) (w64 (y5 + 1))) else
  L1 k k y4 1 16777619 (List.length y0 : Int))
theorem L0_snd {k : Nat}  : ∀ {n : Nat} ⦃y0 : (List UInt8)⦄ ⦃y4 : Int⦄ ⦃y5 : Int⦄ ⦃S : HS⦄ ⦃p : Int × Int⦄ ⦃Gb Gc Gd Gg Gh Gi Gj Gk Gl Gm Gn Go Gp Gq Gr Gs Gt Gu Gv Gw Gx Gy Gz Ka Kb Kc Kd Ke Kf Kg Kh Ki Kj Kk Kl Km : HV⦄,L0 k n y0 y4 y5 = some p → HRun Tryz.prog base W0 β0 109 none [.inLoop c9,.inBlock 0,.code c19] ⟨[(.str y0),Gb,Gc,Gd,(.int .u32 y4),(.int .i64 y5),Gg,Gh,Gi,Gj,Gk,Gl,Gm,Gn,Go,Gp,Gq,Gr,Gs,Gt,Gu,Gv,Gw,Gx,Gy,Gz,Ka,Kb,Kc,Kd,Ke,Kf,Kg,Kh,Ki,Kj,Kk,Kl,Km],[]⟩ S (fun v S1 => v = (.tup [(.int .u32 p.1),(.int .u32 p.2)]) ∧ S1 = S) := by
 intro n
 induction n with
 | zero => intro _ _ _ _ _ _ _ _ _ _ _ _ _ _ _ _ _ _ _ _ _ _ _ _ _ _ _ _ _ _ _ _ _ _ _ _ _ _ _ _ _ h; cases h
 | succ n ih =>
  intro y0 y4 y5 S p Gb Gc Gd Gg Gh Gi Gj Gk Gl Gm Gn Go Gp Gq Gr Gs Gt Gu Gv Gw Gx Gy Gz Ka Kb Kc Kd Ke Kf Kg Kh Ki Kj Kk Kl Km h
  simp only [L0] at h
  refine hr_inLoop (qQ rfl (qQ rfl (qR rfl rfl (qS 9 rfl (oM · rfl) (qS 10 rfl (oM · rfl) (qS 11 rfl (ok_len_str · rfl tu9 (.tmp rfl)) (qS 12 rfl (oB · rfl rfl rfl) (rE ?_))))))))
  try dsimp only [w0,w1,w2,w3]
  rcases ifc h with ⟨hc1,h⟩ | ⟨hc1,h⟩
  ·refine q_cond_t rfl (.tmp rfl) (decide_eq_true hc1) (q_skipc rfl (qQ rfl (q_block rfl (qR rfl rfl (qS 15 rfl (oM · rfl) (qS 16 rfl (oC · rfl rfl) (qS 17 rfl (oM · rfl) (qS 18 rfl (oM · rfl) ?_))))))))
   try dsimp only [w0,w1,w2,w3]
   obtain ⟨p2,hp2,h⟩ := bindo h
   refine qS 19 rfl (ok_index_s · tu9 (.tmp rfl) (.tmp rfl) hp2) (qS 20 rfl (ok_conv_int · tu5 tu130 (.tmp rfl)) (qS 21 rfl (oB · rfl rfl rfl) (qS 4 rfl (oA · rfl) (rE ?_))))
   try dsimp only [w0,w1,w2,w3]
   refine hr_inBlock (qR rfl rfl (qS 13 rfl (oM · rfl) (qS 14 rfl (oC · rfl rfl) (qS 5 rfl (oA · rfl) (rE ?_)))))
   try dsimp only [w0,w1,w2,w3]
   try dsimp only [w0,w1,w2,w3]
   exact ih h
  ·refine q_cond_f rfl (.tmp rfl) (decide_eq_false hc1) (q_exit rfl rfl (qQ rfl (qR rfl rfl (qS 6 rfl (ok_assign · (.int _ _)) (qS 7 rfl (ok_assign · (.int _ _)) (rE ?_))))))
   try dsimp only [w0,w1,w2,w3]
   refine qQ rfl (qQ rfl (qR rfl rfl (qS 22 rfl (oM · rfl) (qS 23 rfl (ok_len_str · rfl tu9 (.tmp rfl)) (qS 8 rfl (oA · rfl) (rE ?_))))))
   try dsimp only [w0,w1,w2,w3]
   refine q_block rfl (q_loop rfl ?_)
   try dsimp only [w0,w1,w2,w3]
   exact L1_snd  h
end
end internal_bytealg_hashStr_string
namespace internal_bytealg_IndexRabinKarp_string
theorem at_ : FnAt Tryz.prog 104 Tryz.f104 := ⟨Tryz.func104,by kernel_rfl⟩
noncomputable def d0 := (Tryz.f104.body).getD .skip
noncomputable def r1 := kR (kA d0)
noncomputable def r3 := kR (kA (kB d0))
noncomputable def r5 := kR (kA (kB (kB d0)))
noncomputable def d6 := kB (kB (kB d0))
noncomputable def r7 := kR (kA d6)
noncomputable def r10 := kR (kA (kA (kB d6)))
noncomputable def d13 := kA (kA (kB (kA (kB d6))))
noncomputable def r15 := kR (kA (kA d13))
noncomputable def r21 := kR (kA (kA (kB d13)))
noncomputable def r22 := kR (kB (kB d13))
noncomputable def r25 := kR (kA (kA (kB (kB d6))))
noncomputable def r28 := kR (kA (kA (kB (kA (kB (kB d6))))))
noncomputable def d31 := kB (kB (kB d6))
noncomputable def r33 := kR (kA (kA d31))
noncomputable def d35 := kA (kB (kA d31))
noncomputable def r38 := kR (kA (kA (kA d35)))
noncomputable def d43 := kA (kB (kA d35))
noncomputable def r44 := kR (kA d43)
noncomputable def r46 := kR (kA (kB d43))
noncomputable def r48 := kR (kA (kB (kB d43)))
noncomputable def r50 := kR (kA (kB (kB (kB d43))))
noncomputable def r52 := kR (kA (kB (kB (kB (kB d43)))))
noncomputable def r55 := kR (kA (kA (kB (kB (kB (kB (kB d43)))))))
noncomputable def r59 := kR (kA (kB d31))
noncomputable def c58 : Code := .seq (.region 18 r59 false) .ret
noncomputable def c53 : Code := .cond (.tmp 77) (.seq (.region 17 r55 false) .ret) .skip
noncomputable def c36 : Code := .seq (.seq (.region 11 r38 false) (.cond (.tmp 44) .skip (.exit 2))) (.block 3 (.seq (.region 12 r44 false) (.seq (.region 13 r46 false) (.seq (.region 14 r48 false) (.seq (.region 15 r50 false) (.seq (.region 16 r52 false) c53))))))
noncomputable def c31 : Code := .seq (.seq (.region 10 r33 false) (.block 2 (.loop c36))) c58
noncomputable def c26 : Code := .cond (.tmp 39) (.seq (.region 9 r28 false) .ret) .skip
noncomputable def c23 : Code := .seq (.seq (.region 8 r25 false) c26) c31
noncomputable def c13 : Code := .seq (.seq (.region 5 r15 false) (.cond (.tmp 20) .skip (.exit 0))) (.seq (.block 1 (.region 7 r21 false)) (.region 6 r22 false))
noncomputable def c0 : Code := .seq (.region 0 r1 false) (.seq (.region 1 r3 false) (.seq (.region 2 r5 false) (.seq (.region 3 r7 false) (.seq (.seq (.region 4 r10 false) (.block 0 (.loop c13))) c23))))
theorem body : Tryz.f104.body = some c0 := by kernel_rfl
section
variable {base : Nat} {W0 : World} {β0 : Bt}
def J3 (k : Nat) (rec0 : (List UInt8) → (List UInt8) → Int → Int → Int → Int → Int → Option (Int)) (y0 : (List UInt8)) (y1 : (List UInt8)) (y5 : Int) (y6 : Int) (y7 : Int) (y8 : Int) (y10 : Int) (y77 : Bool) : Option (Int) :=
 (if y77 = true then
 some (w64 (y10 - y7)) else
 rec0 y0 y1 y5 y6 y7 y8 y10)
theorem J3_snd {k : Nat} {rec0 : (List UInt8) → (List UInt8) → Int → Int → Int → Int → Int → Option (Int)} (hrec0 : ∀ ⦃y0 : (List UInt8)⦄ ⦃y1 : (List UInt8)⦄ ⦃y5 : Int⦄ ⦃y6 : Int⦄ ⦃y7 : Int⦄ ⦃y8 : Int⦄ ⦃y10 : Int⦄ ⦃S : HS⦄ ⦃p : Int⦄ ⦃Gc Gd Ge Gj Gl Gm Gn Go Gp Gq Gr Gs Gt Gu Gv Gw Gx Gy Gz Ka Kb Kc Kd Ke Kf Kg Kh Ki Kj Kk Kl Km Kn Ko Kp Kq Kr Ks Kt Ku Kv Kw Kx Ky Kz Ma Mb Mc Md Me Mf Mg Mh Mi Mj Mk Ml Mm Mn Mo Mp Mq Mr Ms Mt Mu Mv Mw Mx My Mz Na Nb Nc : HV⦄,rec0 y0 y1 y5 y6 y7 y8 y10 = some p → HRun Tryz.prog base W0 β0 104 none [.inLoop c36,.inBlock 2,.code c58] ⟨[(.str y0),(.str y1),Gc,Gd,Ge,(.int .u32 y5),(.int .u32 y6),(.int .i64 y7),(.int .u32 y8),Gj,(.int .i64 y10),Gl,Gm,Gn,Go,Gp,Gq,Gr,Gs,Gt,Gu,Gv,Gw,Gx,Gy,Gz,Ka,Kb,Kc,Kd,Ke,Kf,Kg,Kh,Ki,Kj,Kk,Kl,Km,Kn,Ko,Kp,Kq,Kr,Ks,Kt,Ku,Kv,Kw,Kx,Ky,Kz,Ma,Mb,Mc,Md,Me,Mf,Mg,Mh,Mi,Mj,Mk,Ml,Mm,Mn,Mo,Mp,Mq,Mr,Ms,Mt,Mu,Mv,Mw,Mx,My,Mz,Na,Nb,Nc],[]⟩ S (fun v S1 => v = (.int .i64 p) ∧ S1 = S)) {y0 : (List UInt8)} {y1 : (List UInt8)} {y5 : Int} {y6 : Int} {y7 : Int} {y8 : Int} {y10 : Int} {y77 : Bool} {S : HS} {p : Int} {Gc Gd Ge Gj Gl Gm Gn Go Gp Gq Gr Gs Gt Gu Gv Gw Gx Gy Gz Ka Kb Kc Kd Ke Kf Kg Kh Ki Kj Kk Kl Km Kn Ko Kp Kq Kr Ks Kt Ku Kv Kw Kx Ky Kz Ma Mb Mc Md Me Mf Mg Mh Mi Mj Mk Ml Mm Mn Mo Mp Mq Mr Ms Mt Mu Mv Mw Mx My Na Nb Nc : HV} (h : J3 k rec0 y0 y1 y5 y6 y7 y8 y10 y77 = some p) : HRun Tryz.prog base W0 β0 104 none [.code c53,.inBlock 3,.inLoop c36,.inBlock 2,.code c58] ⟨[(.str y0),(.str y1),Gc,Gd,Ge,(.int .u32 y5),(.int .u32 y6),(.int .i64 y7),(.int .u32 y8),Gj,(.int .i64 y10),Gl,Gm,Gn,Go,Gp,Gq,Gr,Gs,Gt,Gu,Gv,Gw,Gx,Gy,Gz,Ka,Kb,Kc,Kd,Ke,Kf,Kg,Kh,Ki,Kj,Kk,Kl,Km,Kn,Ko,Kp,Kq,Kr,Ks,Kt,Ku,Kv,Kw,Kx,Ky,Kz,Ma,Mb,Mc,Md,Me,Mf,Mg,Mh,Mi,Mj,Mk,Ml,Mm,Mn,Mo,Mp,Mq,Mr,Ms,Mt,Mu,Mv,Mw,Mx,My,(.bool y77),Na,Nb,Nc],[]⟩ S (fun v S1 => v = (.int .i64 p) ∧ S1 = S) := by
 unfold J3 at h
 rcases ifc h with ⟨hc12,h⟩ | ⟨hc12,h⟩
 ·refine q_cond_t rfl (.tmp rfl) hc12 (qQ rfl (qR rfl rfl (qS 78 rfl (oM · rfl) (qS 79 rfl (oM · rfl) (qS 80 rfl (oB · rfl rfl rfl) (qS 4 rfl (oA · rfl) (rE ?_)))))))
  try dsimp only [w0,w1,w2,w3]
  cases h
  exact q_ret rfl at_.at_ rfl (res1 rfl rfl) ⟨rfl,rfl⟩
 ·refine q_cond_f rfl (.tmp rfl) (bfalse hc12) (q_skipc rfl (hr_inBlock ?_))
  try dsimp only [w0,w1,w2,w3]
  exact hrec0 h
def L2 (k : Nat) : Nat → (List UInt8) → (List UInt8) → Int → Int → Int → Int → Int → Option (Int)
 | 0,_,_,_,_,_,_,_ => none
 | n + 1,y0,y1,y5,y6,y7,y8,y10 =>
  (if y10 < (List.length y0 : Int) then
  (Option.bind (sat y0 y10) fun p8 =>
  (Option.bind (sat y0 (w64 (y10 - y7))) fun p9 =>
  (if (IntKind.wrap .u32 ((IntKind.wrap .u32 ((IntKind.wrap .u32 (y8 * 16777619)) + (IntKind.wrap .u32 (UInt8.toNat p8 : Int)))) - (IntKind.wrap .u32 (y6 * (IntKind.wrap .u32 (UInt8.toNat p9 : Int)))))) = y5 then
  (if 0 ≤ ((w64 ((w64 (y10 + 1)) - y7)) : Int) ∧ ((w64 ((w64 (y10 + 1)) - y7)) : Int) ≤ (w64 (y10 + 1)) ∧ ((w64 (y10 + 1)) : Int) ≤ (List.length y0 : Int) then
  J3 k (L2 k n) y0 y1 y5 y6 y7 (IntKind.wrap .u32 ((IntKind.wrap .u32 ((IntKind.wrap .u32 (y8 * 16777619)) + (IntKind.wrap .u32 (UInt8.toNat p8 : Int)))) - (IntKind.wrap .u32 (y6 * (IntKind.wrap .u32 (UInt8.toNat p9 : Int)))))) (w64 (y10 + 1)) (decide ((ssub y0 (w64 ((w64 (y10 + 1)) - y7)) (w64 (y10 + 1))) = y1)) else none) else
  J3 k (L2 k n) y0 y1 y5 y6 y7 (IntKind.wrap .u32 ((IntKind.wrap .u32 ((IntKind.wrap .u32 (y8 * 16777619)) + (IntKind.wrap .u32 (UInt8.toNat p8 : Int)))) - (IntKind.wrap .u32 (y6 * (IntKind.wrap .u32 (UInt8.toNat p9 : Int)))))) (w64 (y10 + 1)) false))) else
  some (-1))
theorem L2_snd {k : Nat}  : ∀ {n : Nat} ⦃y0 : (List UInt8)⦄ ⦃y1 : (List UInt8)⦄ ⦃y5 : Int⦄ ⦃y6 : Int⦄ ⦃y7 : Int⦄ ⦃y8 : Int⦄ ⦃y10 : Int⦄ ⦃S : HS⦄ ⦃p : Int⦄ ⦃Gc Gd Ge Gj Gl Gm Gn Go Gp Gq Gr Gs Gt Gu Gv Gw Gx Gy Gz Ka Kb Kc Kd Ke Kf Kg Kh Ki Kj Kk Kl Km Kn Ko Kp Kq Kr Ks Kt Ku Kv Kw Kx Ky Kz Ma Mb Mc Md Me Mf Mg Mh Mi Mj Mk Ml Mm Mn Mo Mp Mq Mr Ms Mt Mu Mv Mw Mx My Mz Na Nb Nc : HV⦄,L2 k n y0 y1 y5 y6 y7 y8 y10 = some p → HRun Tryz.prog base W0 β0 104 none [.inLoop c36,.inBlock 2,.code c58] ⟨[(.str y0),(.str y1),Gc,Gd,Ge,(.int .u32 y5),(.int .u32 y6),(.int .i64 y7),(.int .u32 y8),Gj,(.int .i64 y10),Gl,Gm,Gn,Go,Gp,Gq,Gr,Gs,Gt,Gu,Gv,Gw,Gx,Gy,Gz,Ka,Kb,Kc,Kd,Ke,Kf,Kg,Kh,Ki,Kj,Kk,Kl,Km,Kn,Ko,Kp,Kq,Kr,Ks,Kt,Ku,Kv,Kw,Kx,Ky,Kz,Ma,Mb,Mc,Md,Me,Mf,Mg,Mh,Mi,Mj,Mk,Ml,Mm,Mn,Mo,Mp,Mq,Mr,Ms,Mt,Mu,Mv,Mw,Mx,My,Mz,Na,Nb,Nc],[]⟩ S (fun v S1 => v = (.int .i64 p) ∧ S1 = S) := by
 intro n
 induction n with
 | zero => intro _ _ _ _ _ _ _ _ _ _ _ _ _ _ _ _ _ _ _ _ _ _ _ _ _ _ _ _ _ _ _ _ _ _ _ _ _ _ _ _ _ _ _ _ _ _ _ _ _ _ _ _ _ _ _ _ _ _ _ _ _ _ _ _ _ _ _ _ _ _ _ _ _ _ _ _ _ _ _ _ _ _ _ h; cases h
 | succ n ih =>
  intro y0 y1 y5 y6 y7 y8 y10 S p Gc Gd Ge Gj Gl Gm Gn Go Gp Gq Gr Gs Gt Gu Gv Gw Gx Gy Gz Ka Kb Kc Kd Ke Kf Kg Kh Ki Kj Kk Kl Km Kn Ko Kp Kq Kr Ks Kt Ku Kv Kw Kx Ky Kz Ma Mb Mc Md Me Mf Mg Mh Mi Mj Mk Ml Mm Mn Mo Mp Mq Mr Ms Mt Mu Mv Mw Mx My Mz Na Nb Nc h
  simp only [L2] at h
  refine hr_inLoop (qQ rfl (qQ rfl (qR rfl rfl (qS 41 rfl (oM · rfl) (qS 42 rfl (oM · rfl) (qS 43 rfl (ok_len_str · rfl tu9 (.tmp rfl)) (qS 44 rfl (oB · rfl rfl rfl) (rE ?_))))))))
  try dsimp only [w0,w1,w2,w3]
  rcases ifc h with ⟨hc7,h⟩ | ⟨hc7,h⟩
  ·refine q_cond_t rfl (.tmp rfl) (decide_eq_true hc7) (q_skipc rfl (q_block rfl (qQ rfl (qR rfl rfl (qS 45 rfl (oM · rfl) (qS 46 rfl (oC · rfl rfl) (qS 8 rfl (oA · rfl) (rE ?_))))))))
   try dsimp only [w0,w1,w2,w3]
   obtain ⟨p8,hp8,h⟩ := bindo h
   refine qQ rfl (qR rfl rfl (qS 47 rfl (oM · rfl) (qS 48 rfl (oM · rfl) (qS 49 rfl (oM · rfl) (qS 50 rfl (ok_index_s · tu9 (.tmp rfl) (.tmp rfl) hp8) ?_)))))
   try dsimp only [w0,w1,w2,w3]
   refine qS 51 rfl (ok_conv_int · tu5 tu130 (.tmp rfl)) (qS 52 rfl (oB · rfl rfl rfl) (qS 8 rfl (oA · rfl) (rE ?_)))
   try dsimp only [w0,w1,w2,w3]
   refine qQ rfl (qR rfl rfl (qS 53 rfl (oM · rfl) (qS 54 rfl (oM · rfl) (qS 55 rfl (oM · rfl) (qS 56 rfl (oM · rfl) ?_)))))
   try dsimp only [w0,w1,w2,w3]
   obtain ⟨p9,hp9,h⟩ := bindo h
   refine qS 57 rfl (oM · rfl) (qS 58 rfl (oB · rfl rfl rfl) (qS 59 rfl (ok_index_s · tu9 (.tmp rfl) (.tmp rfl) hp9) (qS 60 rfl (ok_conv_int · tu5 tu130 (.tmp rfl)) ?_)))
   try dsimp only [w0,w1,w2,w3]
   refine qS 61 rfl (oB · rfl rfl rfl) (qS 62 rfl (oB · rfl rfl rfl) (qS 8 rfl (oA · rfl) (rE ?_)))
   try dsimp only [w0,w1,w2,w3]
   refine qQ rfl (qR rfl rfl (qS 63 rfl (oM · rfl) (qS 64 rfl (oC · rfl rfl) (qS 10 rfl (oA · rfl) (rE ?_)))))
   try dsimp only [w0,w1,w2,w3]
   refine qQ rfl (qR rfl rfl (qS 65 rfl (oM · rfl) (qS 66 rfl (oM · rfl) (qS 67 rfl (oB · rfl rfl rfl) (qS 68 rfl (oM · rfl) ?_)))))
   try dsimp only [w0,w1,w2,w3]
   rcases ifc h with ⟨hc10,h⟩ | ⟨hc10,h⟩
   ·refine qG 68 69 rfl (decide_eq_true hc10) (oM · rfl) (qG 68 70 rfl (decide_eq_true hc10) (oM · rfl) (qG 68 71 rfl (decide_eq_true hc10) (oM · rfl) (qG 68 72 rfl (decide_eq_true hc10) (oB · rfl rfl rfl) ?_)))
    try dsimp only [w0,w1,w2,w3]
    obtain ⟨hg11,h⟩ := gd h
    refine qG 68 73 rfl (decide_eq_true hc10) (oM · rfl) (qG 68 74 rfl (decide_eq_true hc10) (ok_slice_str (kl := .i64) (kh := .i64) (l := (w64 ((w64 (y10 + 1)) - y7))) (h := (w64 (y10 + 1))) · tu9 (.tmp rfl) (.inr ⟨_,rfl,(.tmp rfl)⟩) (.inr ⟨_,rfl,(.tmp rfl)⟩) hg11.1 hg11.2.1 hg11.2.2) (qG 68 75 rfl (decide_eq_true hc10) (oM · rfl) (qG 68 76 rfl (decide_eq_true hc10) (ok_sbin · (.tmp rfl) (.tmp rfl) rfl) ?_)))
    try dsimp only [w0,w1,w2,w3]
    refine qS 77 rfl (ok_pick_tt · (.tmp rfl) (decide_eq_true hc10) (.tmp rfl)) (rE ?_)
    try dsimp only [w0,w1,w2,w3]
    try dsimp only [w0,w1,w2,w3]
    exact J3_snd ih h
   ·refine q_skip (dst := some 69) (t := 68) rfl rfl rfl (decide_eq_false hc10) (q_skip (dst := some 70) (t := 68) rfl rfl rfl (decide_eq_false hc10) (q_skip (dst := some 71) (t := 68) rfl rfl rfl (decide_eq_false hc10) (q_skip (dst := some 72) (t := 68) rfl rfl rfl (decide_eq_false hc10) ?_)))
    try dsimp only [w0,w1,w2,w3]
    refine q_skip (dst := some 73) (t := 68) rfl rfl rfl (decide_eq_false hc10) (q_skip (dst := some 74) (t := 68) rfl rfl rfl (decide_eq_false hc10) (q_skip (dst := some 75) (t := 68) rfl rfl rfl (decide_eq_false hc10) (q_skip (dst := some 76) (t := 68) rfl rfl rfl (decide_eq_false hc10) ?_)))
    try dsimp only [w0,w1,w2,w3]
    refine qS 77 rfl (ok_pick_ff · (.tmp rfl) (decide_eq_false hc10) (.bool _)) (rE ?_)
    try dsimp only [w0,w1,w2,w3]
    try dsimp only [w0,w1,w2,w3]
    exact J3_snd ih h
  ·refine q_cond_f rfl (.tmp rfl) (decide_eq_false hc7) (q_exit rfl rfl (qQ rfl (qR rfl rfl (qS 4 rfl (ok_assign · (.int _ _)) (rE ?_)))))
   try dsimp only [w0,w1,w2,w3]
   cases h
   exact q_ret rfl at_.at_ rfl (res1 rfl rfl) ⟨rfl,rfl⟩
def J1 (k : Nat) (y0 : (List UInt8)) (y1 : (List UInt8)) (y5 : Int) (y6 : Int) (y7 : Int) (y8 : Int) (y39 : Bool) : Option (Int) :=
 (if y39 = true then
 some 0 else
 L2 k k y0 y1 y5 y6 y7 y8 y7)
theorem J1_snd {k : Nat}  {y0 : (List UInt8)} {y1 : (List UInt8)} {y5 : Int} {y6 : Int} {y7 : Int} {y8 : Int} {y39 : Bool} {S : HS} {p : Int} {Gc Gd Ge Gj Gk Gl Gm Gn Go Gp Gq Gr Gs Gt Gu Gv Gw Gx Gy Gz Ka Kb Kc Kd Ke Kf Kg Kh Ki Kj Kk Kl Km Ko Kp Kq Kr Ks Kt Ku Kv Kw Kx Ky Kz Ma Mb Mc Md Me Mf Mg Mh Mi Mj Mk Ml Mm Mn Mo Mp Mq Mr Ms Mt Mu Mv Mw Mx My Mz Na Nb Nc : HV} (h : J1 k y0 y1 y5 y6 y7 y8 y39 = some p) : HRun Tryz.prog base W0 β0 104 none [.code c26,.code c31] ⟨[(.str y0),(.str y1),Gc,Gd,Ge,(.int .u32 y5),(.int .u32 y6),(.int .i64 y7),(.int .u32 y8),Gj,Gk,Gl,Gm,Gn,Go,Gp,Gq,Gr,Gs,Gt,Gu,Gv,Gw,Gx,Gy,Gz,Ka,Kb,Kc,Kd,Ke,Kf,Kg,Kh,Ki,Kj,Kk,Kl,Km,(.bool y39),Ko,Kp,Kq,Kr,Ks,Kt,Ku,Kv,Kw,Kx,Ky,Kz,Ma,Mb,Mc,Md,Me,Mf,Mg,Mh,Mi,Mj,Mk,Ml,Mm,Mn,Mo,Mp,Mq,Mr,Ms,Mt,Mu,Mv,Mw,Mx,My,Mz,Na,Nb,Nc],[]⟩ S (fun v S1 => v = (.int .i64 p) ∧ S1 = S) := by
 unfold J1 at h
 rcases ifc h with ⟨hc6,h⟩ | ⟨hc6,h⟩
 ·refine q_cond_t rfl (.tmp rfl) hc6 (qQ rfl (qR rfl rfl (qS 4 rfl (ok_assign · (.int _ _)) (rE ?_))))
  try dsimp only [w0,w1,w2,w3]
  cases h
  exact q_ret rfl at_.at_ rfl (res1 rfl rfl) ⟨rfl,rfl⟩
 ·refine q_cond_f rfl (.tmp rfl) (bfalse hc6) (q_skipc rfl (qQ rfl (qQ rfl (qR rfl rfl (qS 40 rfl (oM · rfl) (qS 10 rfl (oA · rfl) (rE ?_)))))))
  try dsimp only [w0,w1,w2,w3]
  refine q_block rfl (q_loop rfl ?_)
  try dsimp only [w0,w1,w2,w3]
  exact L2_snd  h
def L0 (k : Nat) : Nat → (List UInt8) → (List UInt8) → Int → Int → Int → Int → Int → Option (Int)
 | 0,_,_,_,_,_,_,_ => none
 | n + 1,y0,y1,y5,y6,y7,y8,y9 =>
  (if y9 < y7 then
  (Option.bind (sat y0 y9) fun p3 =>
  (L0 k n) y0 y1 y5 y6 y7 (IntKind.wrap .u32 ((IntKind.wrap .u32 (y8 * 16777619)) + (IntKind.wrap .u32 (UInt8.toNat p3 : Int)))) (w64 (y9 + 1))) else
  (if y8 = y5 then
  (if 0 ≤ (0 : Int) ∧ (0 : Int) ≤ y7 ∧ (y7 : Int) ≤ (List.length y0 : Int) then
  J1 k y0 y1 y5 y6 y7 y8 (decide ((ssub y0 0 y7) = y1)) else none) else
  J1 k y0 y1 y5 y6 y7 y8 false))
theorem L0_snd {k : Nat}  : ∀ {n : Nat} ⦃y0 : (List UInt8)⦄ ⦃y1 : (List UInt8)⦄ ⦃y5 : Int⦄ ⦃y6 : Int⦄ ⦃y7 : Int⦄ ⦃y8 : Int⦄ ⦃y9 : Int⦄ ⦃S : HS⦄ ⦃p : Int⦄ ⦃Gc Gd Ge Gk Gl Gm Gn Go Gp Gq Gr Gs Gt Gu Gv Gw Gx Gy Gz Ka Kb Kc Kd Ke Kf Kg Kh Ki Kj Kk Kl Km Kn Ko Kp Kq Kr Ks Kt Ku Kv Kw Kx Ky Kz Ma Mb Mc Md Me Mf Mg Mh Mi Mj Mk Ml Mm Mn Mo Mp Mq Mr Ms Mt Mu Mv Mw Mx My Mz Na Nb Nc : HV⦄,L0 k n y0 y1 y5 y6 y7 y8 y9 = some p → HRun Tryz.prog base W0 β0 104 none [.inLoop c13,.inBlock 0,.code c23] ⟨[(.str y0),(.str y1),Gc,Gd,Ge,(.int .u32 y5),(.int .u32 y6),(.int .i64 y7),(.int .u32 y8),(.int .i64 y9),Gk,Gl,Gm,Gn,Go,Gp,Gq,Gr,Gs,Gt,Gu,Gv,Gw,Gx,Gy,Gz,Ka,Kb,Kc,Kd,Ke,Kf,Kg,Kh,Ki,Kj,Kk,Kl,Km,Kn,Ko,Kp,Kq,Kr,Ks,Kt,Ku,Kv,Kw,Kx,Ky,Kz,Ma,Mb,Mc,Md,Me,Mf,Mg,Mh,Mi,Mj,Mk,Ml,Mm,Mn,Mo,Mp,Mq,Mr,Ms,Mt,Mu,Mv,Mw,Mx,My,Mz,Na,Nb,Nc],[]⟩ S (fun v S1 => v = (.int .i64 p) ∧ S1 = S) := by
 intro n
 induction n with
 | zero => intro _ _ _ _ _ _ _ _ _ _ _ _ _ _ _ _ _ _ _ _ _ _ _ _ _ _ _ _ _ _ _ _ _ _ _ _ _ _ _ _ _ _ _ _ _ _ _ _ _ _ _ _ _ _ _ _ _ _ _ _ _ _ _ _ _ _ _ _ _ _ _ _ _ _ _ _ _ _ _ _ _ _ _ h; cases h
 | succ n ih =>
  intro y0 y1 y5 y6 y7 y8 y9 S p Gc Gd Ge Gk Gl Gm Gn Go Gp Gq Gr Gs Gt Gu Gv Gw Gx Gy Gz Ka Kb Kc Kd Ke Kf Kg Kh Ki Kj Kk Kl Km Kn Ko Kp Kq Kr Ks Kt Ku Kv Kw Kx Ky Kz Ma Mb Mc Md Me Mf Mg Mh Mi Mj Mk Ml Mm Mn Mo Mp Mq Mr Ms Mt Mu Mv Mw Mx My Mz Na Nb Nc h
  simp only [L0] at h
  refine hr_inLoop (qQ rfl (qQ rfl (qR rfl rfl (qS 18 rfl (oM · rfl) (qS 19 rfl (oM · rfl) (qS 20 rfl (oB · rfl rfl rfl) (rE ?_)))))))
  try dsimp only [w0,w1,w2,w3]
  rcases ifc h with ⟨hc2,h⟩ | ⟨hc2,h⟩
  ·refine q_cond_t rfl (.tmp rfl) (decide_eq_true hc2) (q_skipc rfl (qQ rfl (q_block rfl (qR rfl rfl (qS 23 rfl (oM · rfl) (qS 24 rfl (oC · rfl rfl) (qS 25 rfl (oM · rfl) (qS 26 rfl (oM · rfl) ?_))))))))
   try dsimp only [w0,w1,w2,w3]
   obtain ⟨p3,hp3,h⟩ := bindo h
   refine qS 27 rfl (ok_index_s · tu9 (.tmp rfl) (.tmp rfl) hp3) (qS 28 rfl (ok_conv_int · tu5 tu130 (.tmp rfl)) (qS 29 rfl (oB · rfl rfl rfl) (qS 8 rfl (oA · rfl) (rE ?_))))
   try dsimp only [w0,w1,w2,w3]
   refine hr_inBlock (qR rfl rfl (qS 21 rfl (oM · rfl) (qS 22 rfl (oC · rfl rfl) (qS 9 rfl (oA · rfl) (rE ?_)))))
   try dsimp only [w0,w1,w2,w3]
   try dsimp only [w0,w1,w2,w3]
   exact ih h
  ·refine q_cond_f rfl (.tmp rfl) (decide_eq_false hc2) (q_exit rfl rfl (qQ rfl (qQ rfl (qR rfl rfl (qS 30 rfl (oM · rfl) (qS 31 rfl (oM · rfl) (qS 32 rfl (oB · rfl rfl rfl) (qS 33 rfl (oM · rfl) ?_))))))))
   try dsimp only [w0,w1,w2,w3]
   rcases ifc h with ⟨hc4,h⟩ | ⟨hc4,h⟩
   ·obtain ⟨hg5,h⟩ := gd h
    refine qG 33 34 rfl (decide_eq_true hc4) (oM · rfl) (qG 33 35 rfl (decide_eq_true hc4) (oM · rfl) (qG 33 36 rfl (decide_eq_true hc4) (ok_slice_str (kl := .i64) (kh := .i64) (l := 0) (h := y7) · tu9 (.tmp rfl) (.inl ⟨rfl,rfl⟩) (.inr ⟨_,rfl,(.tmp rfl)⟩) hg5.1 hg5.2.1 hg5.2.2) (qG 33 37 rfl (decide_eq_true hc4) (oM · rfl) ?_)))
    try dsimp only [w0,w1,w2,w3]
    refine qG 33 38 rfl (decide_eq_true hc4) (ok_sbin · (.tmp rfl) (.tmp rfl) rfl) (qS 39 rfl (ok_pick_tt · (.tmp rfl) (decide_eq_true hc4) (.tmp rfl)) (rE ?_))
    try dsimp only [w0,w1,w2,w3]
    try dsimp only [w0,w1,w2,w3]
    exact J1_snd  h
   ·refine q_skip (dst := some 34) (t := 33) rfl rfl rfl (decide_eq_false hc4) (q_skip (dst := some 35) (t := 33) rfl rfl rfl (decide_eq_false hc4) (q_skip (dst := some 36) (t := 33) rfl rfl rfl (decide_eq_false hc4) (q_skip (dst := some 37) (t := 33) rfl rfl rfl (decide_eq_false hc4) ?_)))
    try dsimp only [w0,w1,w2,w3]
    refine q_skip (dst := some 38) (t := 33) rfl rfl rfl (decide_eq_false hc4) (qS 39 rfl (ok_pick_ff · (.tmp rfl) (decide_eq_false hc4) (.bool _)) (rE ?_))
    try dsimp only [w0,w1,w2,w3]
    try dsimp only [w0,w1,w2,w3]
    exact J1_snd  h
end
end internal_bytealg_IndexRabinKarp_string
namespace internal_stringslite_Index
theorem at_ : FnAt Tryz.prog 85 Tryz.f85 := ⟨Tryz.func85,by kernel_rfl⟩
noncomputable def d0 := (Tryz.f85.body).getD .skip
noncomputable def r1 := kR (kA d0)
noncomputable def r3 := kR (kA (kB d0))
noncomputable def d5 := kA (kB (kB d0))
noncomputable def r7 := kR (kA (kA d5))
noncomputable def r10 := kR (kA (kA (kB (kA d5))))
noncomputable def d12 := kB (kB (kA d5))
noncomputable def r13 := kR (kA d12)
noncomputable def r16 := kR (kA (kA (kB d12)))
noncomputable def r19 := kR (kA (kB (kB d12)))
noncomputable def r22 := kR (kA (kA (kB (kB (kB d12)))))
noncomputable def r25 := kR (kA (kB (kB (kB (kB d12)))))
noncomputable def r28 := kR (kA (kA (kB (kB (kB (kB (kB d12)))))))
noncomputable def d31 := kB (kB (kB d0))
noncomputable def r32 := kR (kA d31)
noncomputable def r34 := kR (kA (kB d31))
noncomputable def r36 := kR (kA (kB (kB d31)))
noncomputable def d37 := kB (kB (kB d31))
noncomputable def r38 := kR (kA d37)
noncomputable def r40 := kR (kA (kB d37))
noncomputable def d42 := kA (kB (kB d37))
noncomputable def r46 := kR (kA (kA (kA (kA d42))))
noncomputable def d50 := kB (kA (kA d42))
noncomputable def r53 := kR (kA (kA (kA d50)))
noncomputable def d54 := kB (kA (kA d50))
noncomputable def r56 := kR (kA (kA d54))
noncomputable def r59 := kR (kA (kA (kB (kA d54))))
noncomputable def r62 := kR (kA (kA (kB (kA (kB (kA d54))))))
noncomputable def r65 := kR (kB (kB (kA d54)))
noncomputable def r69 := kR (kA (kA (kB (kA d50))))
noncomputable def r72 := kR (kA (kA (kB (kA (kB (kA d50))))))
noncomputable def d75 := kB (kB (kA d50))
noncomputable def r76 := kR (kA d75)
noncomputable def r78 := kR (kA (kB d75))
noncomputable def r80 := kR (kA (kB (kB d75)))
noncomputable def d81 := kB (kB (kB d75))
noncomputable def r83 := kR (kA (kA d81))
noncomputable def r86 := kR (kA (kA (kB (kA d81))))
noncomputable def r89 := kR (kA (kA (kB (kA (kB (kA d81))))))
noncomputable def r93 := kR (kA (kB (kB (kA d81))))
noncomputable def r96 := kR (kA (kB d81))
noncomputable def d98 := kA (kB (kB d81))
noncomputable def r99 := kR (kA d98)
noncomputable def r102 := kR (kA (kA (kB d98)))
noncomputable def r105 := kR (kA (kA (kB (kA (kB d98)))))
noncomputable def r109 := kR (kA (kB (kB d98)))
noncomputable def r113 := kR (kA (kB (kB (kB d37))))
noncomputable def c31 : Code := .seq (.region 10 r32 false) (.seq (.region 11 r34 false) (.seq (.region 12 r36 false) (.seq (.region 13 r38 false) (.seq (.region 14 r40 false) (.seq (.block 1 (.loop (.seq (.seq (.region 15 r46 false) (.cond (.tmp 59) .skip (.exit 1))) (.block 2 (.seq (.seq (.region 16 r53 false) (.cond (.tmp 64) (.seq (.region 17 r56 false) (.seq (.seq (.region 18 r59 false) (.cond (.tmp 73) (.seq (.region 19 r62 false) .ret) .skip)) (.region 20 r65 false))) .skip)) (.seq (.seq (.region 21 r69 false) (.cond (.tmp 93) (.seq (.region 22 r72 false) .ret) .skip)) (.seq (.region 23 r76 false) (.seq (.region 24 r78 false) (.seq (.region 25 r80 false) (.cond (.tmp 107) (.seq (.region 26 r83 false) (.seq (.seq (.region 27 r86 false) (.cond (.tmp 114) (.seq (.region 28 r89 false) .ret) .skip)) (.seq (.region 29 r93 false) .ret))) (.seq (.region 30 r96 false) (.cond (.tmp 132) (.seq (.region 31 r99 false) (.seq (.seq (.region 32 r102 false) (.cond (.tmp 139) (.seq (.region 33 r105 false) .ret) .skip)) (.seq (.region 34 r109 false) .ret))) .skip)))))))))))) (.seq (.region 35 r113 false) .ret))))))
noncomputable def c8 : Code := .cond (.tmp 16) (.seq (.region 3 r10 false) .ret) (.seq (.region 4 r13 false) (.cond (.tmp 24) (.seq (.region 5 r16 false) .ret) (.seq (.region 6 r19 false) (.cond (.tmp 31) (.seq (.region 7 r22 false) .ret) (.seq (.region 8 r25 false) (.cond (.tmp 36) (.seq (.region 9 r28 false) .ret) .skip))))))
noncomputable def c0 : Code := .seq (.region 0 r1 false) (.seq (.region 1 r3 false) (.seq (.block 0 (.seq (.region 2 r7 false) c8)) c31))
theorem body : Tryz.f85.body = some c0 := by kernel_rfl
section
variable {base : Nat} {W0 : World} {β0 : Bt}
def J0 (k : Nat) (y0 : (List UInt8)) (y1 : (List UInt8)) (y5 : Int) (y23 : Bool) (S : HS) : Option ((Int) × HS) :=
 (if y23 = true then
 some (0,S) else
 (if y5 = 1 then
 (Option.bind (sat y1 0) fun p4 =>
 (Option.bind (internal_stringslite_IndexByte.f y0 (UInt8.toNat p4 : Int)) fun p5 =>
 some (p5,S))) else
 (if y5 ≥ (List.length y0 : Int) then
 some ((-1),S) else
 none)))
theorem J0_snd {k : Nat}  {y0 : (List UInt8)} {y1 : (List UInt8)} {y5 : Int} {y23 : Bool} {S : HS} {p : (Int) × HS} {Gc Gd Ge Gg Gh Gi Gj Gk Gl Gm Gn Go Gp Gq Gr Gs Gt Gu Gv Gw Gy Gz Ka Kb Kc Kd Ke Kf Kg Kh Ki Kj Kk Kl Km Kn Ko Kp Kq Kr Ks Kt Ku Kv Kw Kx Ky Kz Ma Mb Mc Md Me Mf Mg Mh Mi Mj Mk Ml Mm Mn Mo Mp Mq Mr Ms Mt Mu Mv Mw Mx My Mz Na Nb Nc Nd Ne Nf Ng Nh Ni Nj Nk Nl Nm Nn No Np Nq Nr Ns Nt Nu Nv Nw Nx Ny Nz Qa Qb Qc Qd Qe Qf Qg Qh Qi Qj Qk Ql Qm Qn Qo Qp Qq Qr Qs Qt Qu Qv Qw Qx Qy Qz Ua Ub Uc Ud Ue Uf Ug Uh Ui Uj Uk Ul Um : HV} (h : J0 k y0 y1 y5 y23 S = some p) : HRun Tryz.prog base W0 β0 85 none [.inRegion r7 [7],.code c8,.inBlock 0,.code c31] ⟨[(.str y0),(.str y1),Gc,Gd,Ge,(.int .i64 y5),Gg,Gh,Gi,Gj,Gk,Gl,Gm,Gn,Go,Gp,Gq,Gr,Gs,Gt,Gu,Gv,Gw,(.bool y23),Gy,Gz,Ka,Kb,Kc,Kd,Ke,Kf,Kg,Kh,Ki,Kj,Kk,Kl,Km,Kn,Ko,Kp,Kq,Kr,Ks,Kt,Ku,Kv,Kw,Kx,Ky,Kz,Ma,Mb,Mc,Md,Me,Mf,Mg,Mh,Mi,Mj,Mk,Ml,Mm,Mn,Mo,Mp,Mq,Mr,Ms,Mt,Mu,Mv,Mw,Mx,My,Mz,Na,Nb,Nc,Nd,Ne,Nf,Ng,Nh,Ni,Nj,Nk,Nl,Nm,Nn,No,Np,Nq,Nr,Ns,Nt,Nu,Nv,Nw,Nx,Ny,Nz,Qa,Qb,Qc,Qd,Qe,Qf,Qg,Qh,Qi,Qj,Qk,Ql,Qm,Qn,Qo,Qp,Qq,Qr,Qs,Qt,Qu,Qv,Qw,Qx,Qy,Qz,Ua,Ub,Uc,Ud,Ue,Uf,Ug,Uh,Ui,Uj,Uk,Ul,Um],[]⟩ S (fun v S1 => v = (.int .i64 p.1) ∧ S1 = p.2) := by
 unfold J0 at h
 refine qS 16 rfl (oA · rfl) (rE ?_)
 try dsimp only [w0,w1,w2,w3]
 rcases ifc h with ⟨hc2,h⟩ | ⟨hc2,h⟩
 ·refine q_cond_t rfl (.tmp rfl) hc2 (qQ rfl (qR rfl rfl (qS 4 rfl (ok_assign · (.int _ _)) (rE ?_))))
  try dsimp only [w0,w1,w2,w3]
  cases h
  exact q_ret rfl at_.at_ rfl (res1 rfl rfl) ⟨rfl,rfl⟩
 ·refine q_cond_f rfl (.tmp rfl) (bfalse hc2) (qQ rfl (qR rfl rfl (qS 25 rfl (oM · rfl) (qS 26 rfl (oC · rfl rfl) (qS 24 rfl (oA · rfl) (rE ?_))))))
  try dsimp only [w0,w1,w2,w3]
  rcases ifc h with ⟨hc3,h⟩ | ⟨hc3,h⟩
  ·obtain ⟨p4,hp4,h⟩ := bindo h
   obtain ⟨p5,hp5,h⟩ := bindo h
   refine q_cond_t rfl (.tmp rfl) (decide_eq_true hc3) (qQ rfl (qR rfl rfl (qS 27 rfl (oM · rfl) (qS 28 rfl (oM · rfl) (qS 29 rfl (ok_index_s · tu9 (.tmp rfl) (.int _ _) hp4) (q_call (dst := some 30) rfl (.func _) (.cons (.tmp rfl) (.cons (.tmp rfl) Evs.nil)) (HInv.static internal_stringslite_IndexByte.at_ internal_stringslite_IndexByte.body (internal_stringslite_IndexByte.snd  hp5)) ?_))))))
   rintro _ _ ⟨rfl,rfl⟩
   try dsimp only [w0,w1,w2,w3]
   refine qS 4 rfl (oA · rfl) (rE ?_)
   try dsimp only [w0,w1,w2,w3]
   cases h
   exact q_ret rfl at_.at_ rfl (res1 rfl rfl) ⟨rfl,rfl⟩
  ·refine q_cond_f rfl (.tmp rfl) (decide_eq_false hc3) (qQ rfl (qR rfl rfl (qS 32 rfl (oM · rfl) (qS 33 rfl (oM · rfl) (qS 34 rfl (ok_len_str · rfl tu9 (.tmp rfl)) (qS 35 rfl (oB · rfl rfl rfl) ?_))))))
   try dsimp only [w0,w1,w2,w3]
   refine qS 31 rfl (oA · rfl) (rE ?_)
   try dsimp only [w0,w1,w2,w3]
   rcases ifc h with ⟨hc6,h⟩ | ⟨hc6,h⟩
   ·refine q_cond_t rfl (.tmp rfl) (decide_eq_true hc6) (qQ rfl (qR rfl rfl (qS 4 rfl (ok_assign · (.int _ _)) (rE ?_))))
    try dsimp only [w0,w1,w2,w3]
    cases h
    exact q_ret rfl at_.at_ rfl (res1 rfl rfl) ⟨rfl,rfl⟩
   ·refine q_cond_f rfl (.tmp rfl) (decide_eq_false hc6) (qQ rfl (qR rfl rfl (qS 37 rfl (oM · rfl) ?_)))
    cases h
def f (k : Nat) (x0 : (List UInt8)) (x1 : (List UInt8)) (S : HS) : Option ((Int) × HS) :=
 (if (List.length x1 : Int) = 0 then
 J0 k x0 x1 (List.length x1 : Int) true S else
 J0 k x0 x1 (List.length x1 : Int) (decide (x1 = x0)) S)
theorem snd {k : Nat} {x0 : (List UInt8)} {x1 : (List UInt8)} {S : HS}  {p : (Int) × HS} (h : f k x0 x1 S = some p) : HCall Tryz.prog base W0 β0 85 [(.str x0),(.str x1)] S (fun v S1 => v = (.int .i64 p.1) ∧ S1 = p.2) := by
 unfold f at h
 refine HCall.of_run at_.at_ body ?_
 show HRun Tryz.prog base W0 β0 85 none [.code c0] ⟨[(.str x0),(.str x1),τ,τ,τ,τ,τ,τ,τ,τ,τ,τ,τ,τ,τ,τ,τ,τ,τ,τ,τ,τ,τ,τ,τ,τ,τ,τ,τ,τ,τ,τ,τ,τ,τ,τ,τ,τ,τ,τ,τ,τ,τ,τ,τ,τ,τ,τ,τ,τ,τ,τ,τ,τ,τ,τ,τ,τ,τ,τ,τ,τ,τ,τ,τ,τ,τ,τ,τ,τ,τ,τ,τ,τ,τ,τ,τ,τ,τ,τ,τ,τ,τ,τ,τ,τ,τ,τ,τ,τ,τ,τ,τ,τ,τ,τ,τ,τ,τ,τ,τ,τ,τ,τ,τ,τ,τ,τ,τ,τ,τ,τ,τ,τ,τ,τ,τ,τ,τ,τ,τ,τ,τ,τ,τ,τ,τ,τ,τ,τ,τ,τ,τ,τ,τ,τ,τ,τ,τ,τ,τ,τ,τ],[]⟩ S _
 refine qQ rfl (qR rfl rfl (qS 4 rfl (ok_assign · (.int _ _)) (rE ?_)))
 try dsimp only [w0,w1,w2,w3]
 refine qQ rfl (qR rfl rfl (qS 14 rfl (oM · rfl) (qS 15 rfl (ok_len_str · rfl tu9 (.tmp rfl)) (qS 5 rfl (oA · rfl) (rE ?_)))))
 try dsimp only [w0,w1,w2,w3]
 refine qQ rfl (q_block rfl (qQ rfl (qR rfl rfl (qS 17 rfl (oM · rfl) (qS 18 rfl (oC · rfl rfl) (qS 19 rfl (oM · rfl) ?_))))))
 rcases ifc h with ⟨hc1,h⟩ | ⟨hc1,h⟩
 ·refine q_skip (dst := some 20) (t := 19) rfl rfl rfl (decide_eq_true hc1) ?_
  try dsimp only [w0,w1,w2,w3]
  refine q_skip (dst := some 21) (t := 19) rfl rfl rfl (decide_eq_true hc1) (q_skip (dst := some 22) (t := 19) rfl rfl rfl (decide_eq_true hc1) (qS 23 rfl (ok_pick_tt · (.tmp rfl) (decide_eq_true hc1) (.bool _)) ?_))
  try dsimp only [w0,w1,w2,w3]
  exact J0_snd  h
 ·refine qG 19 20 rfl (decide_eq_false hc1) (oM · rfl) ?_
  try dsimp only [w0,w1,w2,w3]
  refine qG 19 21 rfl (decide_eq_false hc1) (oM · rfl) (qG 19 22 rfl (decide_eq_false hc1) (ok_sbin · (.tmp rfl) (.tmp rfl) rfl) (qS 23 rfl (ok_pick_ff · (.tmp rfl) (decide_eq_false hc1) (.tmp rfl)) ?_))
  try dsimp only [w0,w1,w2,w3]
  exact J0_snd  h
end
end internal_stringslite_Index
namespace strings_Index
theorem at_ : FnAt Tryz.prog 69 Tryz.f69 := ⟨Tryz.func69,by kernel_rfl⟩
noncomputable def d0 := (Tryz.f69.body).getD .skip
noncomputable def r1 := kR (kA d0)
noncomputable def r3 := kR (kA (kB d0))
noncomputable def c0 : Code := .seq (.region 0 r1 false) (.seq (.region 1 r3 false) .ret)
theorem body : Tryz.f69.body = some c0 := by kernel_rfl
section
variable {base : Nat} {W0 : World} {β0 : Bt}
def f (k : Nat) (x0 : (List UInt8)) (x1 : (List UInt8)) (S : HS) : Option ((Int) × HS) :=
 (Option.bind (internal_stringslite_Index.f k x0 x1 S) fun p1 =>
 some (p1.1,p1.2))
theorem snd {k : Nat} {x0 : (List UInt8)} {x1 : (List UInt8)} {S : HS}  {p : (Int) × HS} (h : f k x0 x1 S = some p) : HCall Tryz.prog base W0 β0 69 [(.str x0),(.str x1)] S (fun v S1 => v = (.int .i64 p.1) ∧ S1 = p.2) := by
 unfold f at h
 refine HCall.of_run at_.at_ body ?_
 show HRun Tryz.prog base W0 β0 69 none [.code c0] ⟨[(.str x0),(.str x1),τ,τ,τ,τ,τ,τ],[]⟩ S _
 refine qQ rfl (qR rfl rfl (qS 4 rfl (ok_assign · (.int _ _)) (rE ?_)))
 try dsimp only [w0,w1,w2,w3]
 obtain ⟨p1,hp1,h⟩ := bindo h
 refine qQ rfl (qR rfl rfl (qS 5 rfl (oM · rfl) (qS 6 rfl (oM · rfl) (q_call (dst := some 7) rfl (.func _) (.cons (.tmp rfl) (.cons (.tmp rfl) Evs.nil)) (HInv.static internal_stringslite_Index.at_ internal_stringslite_Index.body (internal_stringslite_Index.snd  hp1)) ?_))))
 rintro _ _ ⟨rfl,rfl⟩
 refine qS 4 rfl (oA · rfl) (rE ?_)
 try dsimp only [w0,w1,w2,w3]
 cases h
 exact q_ret rfl at_.at_ rfl (res1 rfl rfl) ⟨rfl,rfl⟩
end
end strings_Index
namespace strings_Contains
theorem at_ : FnAt Tryz.prog 52 Tryz.f52 := ⟨Tryz.func52,by kernel_rfl⟩
noncomputable def d0 := (Tryz.f52.body).getD .skip
noncomputable def r1 := kR (kA d0)
noncomputable def r3 := kR (kA (kB d0))
noncomputable def c0 : Code := .seq (.region 0 r1 false) (.seq (.region 1 r3 false) .ret)
theorem body : Tryz.f52.body = some c0 := by kernel_rfl
section
variable {base : Nat} {W0 : World} {β0 : Bt}
def f (k : Nat) (x0 : (List UInt8)) (x1 : (List UInt8)) (S : HS) : Option ((Bool) × HS) :=
 (Option.bind (strings_Index.f k x0 x1 S) fun p1 =>
 some ((decide (p1.1 ≥ 0)),p1.2))
theorem snd {k : Nat} {x0 : (List UInt8)} {x1 : (List UInt8)} {S : HS}  {p : (Bool) × HS} (h : f k x0 x1 S = some p) : HCall Tryz.prog base W0 β0 52 [(.str x0),(.str x1)] S (fun v S1 => v = (.bool p.1) ∧ S1 = p.2) := by
 unfold f at h
 refine HCall.of_run at_.at_ body ?_
 show HRun Tryz.prog base W0 β0 52 none [.code c0] ⟨[(.str x0),(.str x1),τ,τ,τ,τ,τ,τ,τ],[]⟩ S _
 refine qQ rfl (qR rfl rfl (qS 4 rfl (ok_assign · (.bool _)) (rE ?_)))
 try dsimp only [w0,w1,w2,w3]
 obtain ⟨p1,hp1,h⟩ := bindo h
 refine qQ rfl (qR rfl rfl (qS 5 rfl (oM · rfl) (qS 6 rfl (oM · rfl) (q_call (dst := some 7) rfl (.func _) (.cons (.tmp rfl) (.cons (.tmp rfl) Evs.nil)) (HInv.static strings_Index.at_ strings_Index.body (strings_Index.snd  hp1)) ?_))))
 rintro _ _ ⟨rfl,rfl⟩
 refine qS 8 rfl (oC · rfl rfl) ?_
 try dsimp only [w0,w1,w2,w3]
 refine qS 4 rfl (oA · rfl) (rE ?_)
 try dsimp only [w0,w1,w2,w3]
 cases h
 exact q_ret rfl at_.at_ rfl (res1 rfl rfl) ⟨rfl,rfl⟩
end
end strings_Contains
namespace wish_single
theorem at_ : FnAt Tryz.prog 35 Tryz.f35 := ⟨Tryz.func35,by kernel_rfl⟩
noncomputable def d0 := (Tryz.f35.body).getD .skip
noncomputable def r1 := kR (kA d0)
noncomputable def r4 := kR (kA (kA (kB d0)))
noncomputable def r7 := kR (kA (kA (kB (kA (kB d0)))))
noncomputable def r12 := kR (kA (kA (kB (kB d0))))
noncomputable def r14 := kR (kA (kB (kA (kB (kB d0)))))
noncomputable def r17 := kR (kA (kA (kB (kB (kA (kB (kB d0)))))))
noncomputable def r22 := kR (kA (kA (kB (kB (kB d0)))))
noncomputable def r25 := kR (kA (kA (kB (kA (kB (kB (kB d0)))))))
noncomputable def r29 := kR (kA (kB (kB (kB (kB d0)))))
noncomputable def c0 : Code := .seq (.region 0 r1 false) (.seq (.seq (.region 1 r4 false) (.cond (.tmp 8) (.seq (.region 2 r7 false) .ret) .skip)) (.seq (.seq (.region 3 r12 false) (.seq (.region 4 r14 false) (.cond (.tmp 13) (.seq (.region 5 r17 false) .ret) .skip))) (.seq (.seq (.region 6 r22 false) (.cond (.tmp 19) (.seq (.region 7 r25 false) .ret) .skip)) (.seq (.region 8 r29 false) .ret))))
theorem body : Tryz.f35.body = some c0 := by kernel_rfl
section
variable {base : Nat} {W0 : World} {β0 : Bt}
def f (k : Nat) (x0 : (List UInt8)) (x1 : (List UInt8)) (S : HS) : Option ((Int) × HS) :=
 (if (!decide ((List.length x0 : Int) = 1)) = true then
 some (0,S) else
 (Option.bind (sat x0 0) fun p2 =>
 (Option.bind (strings_IndexByte.f ([99,108,115] : List UInt8) (UInt8.toNat p2 : Int)) fun p3 =>
 (if p3 ≥ 0 then
 (Option.bind (sat ([67,76,83] : List UInt8) p3) fun p5 =>
 some ((UInt8.toNat p5 : Int),S)) else
 (if List.length ([67,76,83] : List UInt8) + List.length x1 ≤ 9223372036854775807 then
 (Option.bind (strings_Contains.f k (([67,76,83] : List UInt8) ++ x1) x0 S) fun p7 =>
 (if p7.1 = true then
 (Option.bind (sat x0 0) fun p9 =>
 some ((UInt8.toNat p9 : Int),p7.2)) else
 some (0,p7.2))) else none)))))
theorem snd {k : Nat} {x0 : (List UInt8)} {x1 : (List UInt8)} {S : HS}  {p : (Int) × HS} (h : f k x0 x1 S = some p) : HCall Tryz.prog base W0 β0 35 [(.str x0),(.str x1)] S (fun v S1 => v = (.int .u8 p.1) ∧ S1 = p.2) := by
 unfold f at h
 refine HCall.of_run at_.at_ body ?_
 show HRun Tryz.prog base W0 β0 35 none [.code c0] ⟨[(.str x0),(.str x1),τ,τ,τ,τ,τ,τ,τ,τ,τ,τ,τ,τ,τ,τ,τ,τ,τ,τ,τ,τ],[]⟩ S _
 refine qQ rfl (qR rfl rfl (qS 4 rfl (ok_assign · (.int _ _)) (rE ?_)))
 try dsimp only [w0,w1,w2,w3]
 refine qQ rfl (qQ rfl (qR rfl rfl (qS 6 rfl (oM · rfl) (qS 7 rfl (ok_len_str · rfl tu9 (.tmp rfl)) (qS 8 rfl (oC · rfl rfl) (rE ?_))))))
 try dsimp only [w0,w1,w2,w3]
 rcases ifc h with ⟨hc1,h⟩ | ⟨hc1,h⟩
 ·refine q_cond_t rfl (.tmp rfl) hc1 (qQ rfl (qR rfl rfl (qS 4 rfl (ok_assign · (.int _ _)) (rE ?_))))
  try dsimp only [w0,w1,w2,w3]
  cases h
  exact q_ret rfl at_.at_ rfl (res1 rfl rfl) ⟨rfl,rfl⟩
 ·obtain ⟨p2,hp2,h⟩ := bindo h
  obtain ⟨p3,hp3,h⟩ := bindo h
  refine q_cond_f rfl (.tmp rfl) (bfalse hc1) (q_skipc rfl (qQ rfl (qQ rfl (qR rfl rfl (qS 9 rfl (oM · rfl) (qS 10 rfl (ok_index_s · tu9 (.tmp rfl) (.int _ _) hp2) (q_call (dst := some 11) rfl (.func _) (.cons (.str _) (.cons (.tmp rfl) Evs.nil)) (HInv.static strings_IndexByte.at_ strings_IndexByte.body (strings_IndexByte.snd  hp3)) ?_)))))))
  rintro _ _ ⟨rfl,rfl⟩
  refine qS 5 rfl (oA · rfl) (rE ?_)
  try dsimp only [w0,w1,w2,w3]
  refine qQ rfl (qR rfl rfl (qS 12 rfl (oM · rfl) (qS 13 rfl (oC · rfl rfl) (rE ?_))))
  try dsimp only [w0,w1,w2,w3]
  rcases ifc h with ⟨hc4,h⟩ | ⟨hc4,h⟩
  ·obtain ⟨p5,hp5,h⟩ := bindo h
   refine q_cond_t rfl (.tmp rfl) (decide_eq_true hc4) (qQ rfl (qR rfl rfl (qS 14 rfl (oM · rfl) (qS 15 rfl (ok_index_s · tu9 (.str _) (.tmp rfl) hp5) (qS 4 rfl (oA · rfl) (rE ?_))))))
   try dsimp only [w0,w1,w2,w3]
   cases h
   exact q_ret rfl at_.at_ rfl (res1 rfl rfl) ⟨rfl,rfl⟩
  ·obtain ⟨hg6,h⟩ := gd h
   obtain ⟨p7,hp7,h⟩ := bindo h
   refine q_cond_f rfl (.tmp rfl) (decide_eq_false hc4) (q_skipc rfl (qQ rfl (qQ rfl (qR rfl rfl (qS 16 rfl (oM · rfl) (qS 17 rfl (ok_sadd · (.str _) (.tmp rfl) hg6) (qS 18 rfl (oM · rfl) (q_call (dst := some 19) rfl (.func _) (.cons (.tmp rfl) (.cons (.tmp rfl) Evs.nil)) (HInv.static strings_Contains.at_ strings_Contains.body (strings_Contains.snd  hp7)) ?_))))))))
   rintro _ _ ⟨rfl,rfl⟩
   refine rE ?_
   try dsimp only [w0,w1,w2,w3]
   rcases ifc h with ⟨hc8,h⟩ | ⟨hc8,h⟩
   ·obtain ⟨p9,hp9,h⟩ := bindo h
    refine q_cond_t rfl (.tmp rfl) hc8 (qQ rfl (qR rfl rfl (qS 20 rfl (oM · rfl) (qS 21 rfl (ok_index_s · tu9 (.tmp rfl) (.int _ _) hp9) (qS 4 rfl (oA · rfl) (rE ?_))))))
    try dsimp only [w0,w1,w2,w3]
    cases h
    exact q_ret rfl at_.at_ rfl (res1 rfl rfl) ⟨rfl,rfl⟩
   ·refine q_cond_f rfl (.tmp rfl) (bfalse hc8) (q_skipc rfl (qQ rfl (qR rfl rfl (qS 4 rfl (ok_assign · (.int _ _)) (rE ?_)))))
    try dsimp only [w0,w1,w2,w3]
    cases h
    exact q_ret rfl at_.at_ rfl (res1 rfl rfl) ⟨rfl,rfl⟩
end
end wish_single
namespace unicode_utf8_RuneCountInString
theorem at_ : FnAt Tryz.prog 86 Tryz.f86 := ⟨Tryz.func86,by kernel_rfl⟩
noncomputable def d0 := (Tryz.f86.body).getD .skip
noncomputable def r1 := kR (kA d0)
noncomputable def r4 := kR (kA (kA (kB d0)))
noncomputable def d7 := kA (kA (kB (kA (kB d0))))
noncomputable def r8 := kR (kA d7)
noncomputable def r14 := kR (kA (kB (kB d7)))
noncomputable def r16 := kR (kA (kB (kB d0)))
noncomputable def c0 : Code := .seq (.region 0 r1 false) (.seq (.seq (.region 1 r4 false) (.block 0 (.loop (.seq (.region 2 r8 false) (.seq (.cond (.tmp 6) .skip (.exit 0)) (.block 1 (.region 3 r14 false))))))) (.seq (.region 4 r16 false) .ret))
theorem body : Tryz.f86.body = some c0 := by kernel_rfl
section
variable {base : Nat} {W0 : World} {β0 : Bt}
def f (k : Nat) (x0 : (List UInt8)) : Option (Int) :=
 none
theorem snd {k : Nat} {x0 : (List UInt8)} {S : HS}  {p : Int} (h : f k x0 = some p) : HCall Tryz.prog base W0 β0 86 [(.str x0)] S (fun v S1 => v = (.int .i64 p) ∧ S1 = S) := by
 unfold f at h
 refine HCall.of_run at_.at_ body ?_
 show HRun Tryz.prog base W0 β0 86 none [.code c0] ⟨[(.str x0),τ,τ,τ,τ,τ,τ,τ,τ,τ],[]⟩ S _
 refine qQ rfl (qR rfl rfl (qS 2 rfl (ok_assign · (.int _ _)) (rE ?_)))
 try dsimp only [w0,w1,w2,w3]
 refine qQ rfl (qQ rfl (qR rfl rfl (qS 3 rfl (oM · rfl) ?_)))
 cases h
end
end unicode_utf8_RuneCountInString
namespace unicode_utf8_decodeRuneInStringSlow
theorem at_ : FnAt Tryz.prog 105 Tryz.f105 := ⟨Tryz.func105,by kernel_rfl⟩
noncomputable def d0 := (Tryz.f105.body).getD .skip
noncomputable def r1 := kR (kA d0)
noncomputable def r3 := kR (kA (kB d0))
noncomputable def r6 := kR (kA (kA (kB (kB d0))))
noncomputable def r9 := kR (kA (kA (kB (kA (kB (kB d0))))))
noncomputable def d12 := kB (kB (kB d0))
noncomputable def r13 := kR (kA d12)
noncomputable def r15 := kR (kA (kB d12))
noncomputable def r18 := kR (kA (kA (kB (kB d12))))
noncomputable def d20 := kA (kB (kA (kB (kB d12))))
noncomputable def r21 := kR (kA d20)
noncomputable def r23 := kR (kA (kB d20))
noncomputable def d26 := kB (kB (kB d12))
noncomputable def r27 := kR (kA d26)
noncomputable def r29 := kR (kA (kB d26))
noncomputable def r32 := kR (kA (kA (kB (kB d26))))
noncomputable def r35 := kR (kA (kA (kB (kA (kB (kB d26))))))
noncomputable def d38 := kB (kB (kB d26))
noncomputable def r39 := kR (kA d38)
noncomputable def r42 := kR (kA (kA (kB d38)))
noncomputable def r45 := kR (kA (kA (kB (kA (kB d38)))))
noncomputable def r50 := kR (kA (kA (kB (kB d38))))
noncomputable def r53 := kR (kA (kA (kB (kA (kB (kB d38))))))
noncomputable def d56 := kB (kB (kB d38))
noncomputable def r57 := kR (kA d56)
noncomputable def r60 := kR (kA (kA (kB d56)))
noncomputable def r63 := kR (kA (kA (kB (kA (kB d56)))))
noncomputable def r68 := kR (kA (kA (kB (kB d56))))
noncomputable def r71 := kR (kA (kA (kB (kA (kB (kB d56))))))
noncomputable def d74 := kB (kB (kB d56))
noncomputable def r75 := kR (kA d74)
noncomputable def r78 := kR (kA (kA (kB d74)))
noncomputable def r81 := kR (kA (kA (kB (kA (kB d74)))))
noncomputable def r85 := kR (kA (kB (kB d74)))
noncomputable def c0 : Code := .seq (.region 0 r1 false) (.seq (.region 1 r3 false) (.seq (.seq (.region 2 r6 false) (.cond (.tmp 16) (.seq (.region 3 r9 false) .ret) .skip)) (.seq (.region 4 r13 false) (.seq (.region 5 r15 false) (.seq (.seq (.region 6 r18 false) (.cond (.tmp 23) (.seq (.region 7 r21 false) (.seq (.region 8 r23 false) .ret)) .skip)) (.seq (.region 9 r27 false) (.seq (.region 10 r29 false) (.seq (.seq (.region 11 r32 false) (.cond (.tmp 45) (.seq (.region 12 r35 false) .ret) .skip)) (.seq (.region 13 r39 false) (.seq (.seq (.region 14 r42 false) (.cond (.tmp 57) (.seq (.region 15 r45 false) .ret) .skip)) (.seq (.seq (.region 16 r50 false) (.cond (.tmp 59) (.seq (.region 17 r53 false) .ret) .skip)) (.seq (.region 18 r57 false) (.seq (.seq (.region 19 r60 false) (.cond (.tmp 75) (.seq (.region 20 r63 false) .ret) .skip)) (.seq (.seq (.region 21 r68 false) (.cond (.tmp 77) (.seq (.region 22 r71 false) .ret) .skip)) (.seq (.region 23 r75 false) (.seq (.seq (.region 24 r78 false) (.cond (.tmp 98) (.seq (.region 25 r81 false) .ret) .skip)) (.seq (.region 26 r85 false) .ret)))))))))))))))))
theorem body : Tryz.f105.body = some c0 := by kernel_rfl
section
variable {base : Nat} {W0 : World} {β0 : Bt}
def f (x0 : (List UInt8)) (S : HS) : Option ((Int × Int) × HS) :=
 (if (List.length x0 : Int) < 1 then
 some ((65533,0),S) else
 (Option.bind (sat x0 0) fun p2 =>
 none))
theorem snd {x0 : (List UInt8)} {S : HS}  {p : (Int × Int) × HS} (h : f x0 S = some p) : HCall Tryz.prog base W0 β0 105 [(.str x0)] S (fun v S1 => v = (.tup [(.int .i32 p.1.1),(.int .i64 p.1.2)]) ∧ S1 = p.2) := by
 unfold f at h
 refine HCall.of_run at_.at_ body ?_
 show HRun Tryz.prog base W0 β0 105 none [.code c0] ⟨[(.str x0),τ,τ,τ,τ,τ,τ,τ,τ,τ,τ,τ,τ,τ,τ,τ,τ,τ,τ,τ,τ,τ,τ,τ,τ,τ,τ,τ,τ,τ,τ,τ,τ,τ,τ,τ,τ,τ,τ,τ,τ,τ,τ,τ,τ,τ,τ,τ,τ,τ,τ,τ,τ,τ,τ,τ,τ,τ,τ,τ,τ,τ,τ,τ,τ,τ,τ,τ,τ,τ,τ,τ,τ,τ,τ,τ,τ,τ,τ,τ,τ,τ,τ,τ,τ,τ,τ,τ,τ,τ,τ,τ,τ,τ,τ,τ,τ,τ,τ,τ,τ,τ,τ,τ,τ,τ,τ,τ,τ,τ,τ,τ,τ,τ,τ,τ,τ],[]⟩ S _
 refine qQ rfl (qR rfl rfl (qS 2 rfl (ok_assign · (.int _ _)) (qS 3 rfl (ok_assign · (.int _ _)) (rE ?_))))
 try dsimp only [w0,w1,w2,w3]
 refine qQ rfl (qR rfl rfl (qS 13 rfl (oM · rfl) (qS 14 rfl (ok_len_str · rfl tu9 (.tmp rfl)) (qS 4 rfl (oA · rfl) (rE ?_)))))
 try dsimp only [w0,w1,w2,w3]
 refine qQ rfl (qQ rfl (qR rfl rfl (qS 15 rfl (oM · rfl) (qS 16 rfl (oC · rfl rfl) (rE ?_)))))
 try dsimp only [w0,w1,w2,w3]
 rcases ifc h with ⟨hc1,h⟩ | ⟨hc1,h⟩
 ·refine q_cond_t rfl (.tmp rfl) (decide_eq_true hc1) (qQ rfl (qR rfl rfl (qS 2 rfl (ok_assign · (.int _ _)) (qS 3 rfl (ok_assign · (.int _ _)) (rE ?_)))))
  try dsimp only [w0,w1,w2,w3]
  cases h
  exact q_ret rfl at_.at_ rfl (res2 rfl rfl rfl) ⟨rfl,rfl⟩
 ·obtain ⟨p2,hp2,h⟩ := bindo h
  refine q_cond_f rfl (.tmp rfl) (decide_eq_false hc1) (q_skipc rfl (qQ rfl (qR rfl rfl (qS 17 rfl (oM · rfl) (qS 18 rfl (ok_index_s · tu9 (.tmp rfl) (.int _ _) hp2) (qS 5 rfl (oA · rfl) (rE ?_)))))))
  try dsimp only [w0,w1,w2,w3]
  refine qQ rfl (qR rfl rfl (qS 19 rfl (oM · rfl) ?_))
  cases h
end
end unicode_utf8_decodeRuneInStringSlow
namespace unicode_utf8_DecodeRuneInString
theorem at_ : FnAt Tryz.prog 87 Tryz.f87 := ⟨Tryz.func87,by kernel_rfl⟩
noncomputable def d0 := (Tryz.f87.body).getD .skip
noncomputable def r1 := kR (kA d0)
noncomputable def r4 := kR (kA (kA (kB d0)))
noncomputable def r7 := kR (kA (kA (kB (kA (kB d0)))))
noncomputable def r9 := kR (kB (kB (kA (kB d0))))
noncomputable def c10 : Code := .ret
noncomputable def c5 : Code := .cond (.tmp 10) (.seq (.region 2 r7 false) .ret) (.region 3 r9 false)
noncomputable def c0 : Code := .seq (.region 0 r1 false) (.seq (.seq (.region 1 r4 false) c5) c10)
theorem body : Tryz.f87.body = some c0 := by kernel_rfl
section
variable {base : Nat} {W0 : World} {β0 : Bt}
def J0  (y0 : (List UInt8)) (y10 : Bool) (S : HS) : Option ((Int × Int) × HS) :=
 (if y10 = true then
 (Option.bind (sat y0 0) fun p4 =>
 some (((IntKind.wrap .i32 (UInt8.toNat p4 : Int)),1),S)) else
 (Option.bind (unicode_utf8_decodeRuneInStringSlow.f y0 S) fun p5 =>
 some ((p5.1.1,p5.1.2),p5.2)))
theorem J0_snd   {y0 : (List UInt8)} {y10 : Bool} {S : HS} {p : (Int × Int) × HS} {Gb Gc Gd Ge Gf Gg Gh Gi Gj Gl Gm Gn Go Gp Gq Gr Gs : HV} (h : J0  y0 y10 S = some p) : HRun Tryz.prog base W0 β0 87 none [.code c5,.code c10] ⟨[(.str y0),Gb,Gc,Gd,Ge,Gf,Gg,Gh,Gi,Gj,(.bool y10),Gl,Gm,Gn,Go,Gp,Gq,Gr,Gs],[]⟩ S (fun v S1 => v = (.tup [(.int .i32 p.1.1),(.int .i64 p.1.2)]) ∧ S1 = p.2) := by
 unfold J0 at h
 rcases ifc h with ⟨hc3,h⟩ | ⟨hc3,h⟩
 ·obtain ⟨p4,hp4,h⟩ := bindo h
  refine q_cond_t rfl (.tmp rfl) hc3 (qQ rfl (qR rfl rfl (qS 11 rfl (oM · rfl) (qS 12 rfl (ok_index_s · tu9 (.tmp rfl) (.int _ _) hp4) (qS 13 rfl (ok_conv_int · tu5 tu21 (.tmp rfl)) (qS 2 rfl (oA · rfl) ?_))))))
  try dsimp only [w0,w1,w2,w3]
  refine qS 3 rfl (ok_assign · (.int _ _)) (rE ?_)
  try dsimp only [w0,w1,w2,w3]
  cases h
  exact q_ret rfl at_.at_ rfl (res2 rfl rfl rfl) ⟨rfl,rfl⟩
 ·obtain ⟨p5,hp5,h⟩ := bindo h
  refine q_cond_f rfl (.tmp rfl) (bfalse hc3) (qR rfl rfl (qS 15 rfl (oM · rfl) (q_call (dst := some 16) rfl (.func _) (.cons (.tmp rfl) Evs.nil) (HInv.static unicode_utf8_decodeRuneInStringSlow.at_ unicode_utf8_decodeRuneInStringSlow.body (unicode_utf8_decodeRuneInStringSlow.snd  hp5)) ?_)))
  rintro _ _ ⟨rfl,rfl⟩
  refine qS 14 rfl (oM · rfl) (qS 17 rfl (ok_extract · (.tmp rfl) rfl) ?_)
  try dsimp only [w0,w1,w2,w3]
  refine qS 18 rfl (ok_extract · (.tmp rfl) rfl) (qS 2 rfl (oA · rfl) (qS 3 rfl (oA · rfl) (rE ?_)))
  try dsimp only [w0,w1,w2,w3]
  cases h
  exact q_ret rfl at_.at_ rfl (res2 rfl rfl rfl) ⟨rfl,rfl⟩
def f (x0 : (List UInt8)) (S : HS) : Option ((Int × Int) × HS) :=
 (if (!decide (x0 = ([] : List UInt8))) = true then
 (Option.bind (sat x0 0) fun p2 =>
 J0 x0 (decide ((UInt8.toNat p2 : Int) < 128)) S) else
 J0 x0 false S)
theorem snd {x0 : (List UInt8)} {S : HS}  {p : (Int × Int) × HS} (h : f x0 S = some p) : HCall Tryz.prog base W0 β0 87 [(.str x0)] S (fun v S1 => v = (.tup [(.int .i32 p.1.1),(.int .i64 p.1.2)]) ∧ S1 = p.2) := by
 unfold f at h
 refine HCall.of_run at_.at_ body ?_
 show HRun Tryz.prog base W0 β0 87 none [.code c0] ⟨[(.str x0),τ,τ,τ,τ,τ,τ,τ,τ,τ,τ,τ,τ,τ,τ,τ,τ,τ,τ],[]⟩ S _
 refine qQ rfl (qR rfl rfl (qS 2 rfl (ok_assign · (.int _ _)) (qS 3 rfl (ok_assign · (.int _ _)) (rE ?_))))
 try dsimp only [w0,w1,w2,w3]
 refine qQ rfl (qQ rfl (qR rfl rfl (qS 4 rfl (oM · rfl) (qS 5 rfl (ok_sbin · (.tmp rfl) (.str _) rfl) (qS 6 rfl (oM · rfl) ?_)))))
 rcases ifc h with ⟨hc1,h⟩ | ⟨hc1,h⟩
 ·refine qG 6 7 rfl hc1 (oM · rfl) ?_
  try dsimp only [w0,w1,w2,w3]
  obtain ⟨p2,hp2,h⟩ := bindo h
  refine qG 6 8 rfl hc1 (ok_index_s · tu9 (.tmp rfl) (.int _ _) hp2) (qG 6 9 rfl hc1 (oC · rfl rfl) (qS 10 rfl (ok_pick_tt · (.tmp rfl) hc1 (.tmp rfl)) (rE ?_)))
  try dsimp only [w0,w1,w2,w3]
  try dsimp only [w0,w1,w2,w3]
  exact J0_snd  h
 ·refine q_skip (dst := some 7) (t := 6) rfl rfl rfl (bfalse hc1) ?_
  try dsimp only [w0,w1,w2,w3]
  refine q_skip (dst := some 8) (t := 6) rfl rfl rfl (bfalse hc1) (q_skip (dst := some 9) (t := 6) rfl rfl rfl (bfalse hc1) (qS 10 rfl (ok_pick_ff · (.tmp rfl) (bfalse hc1) (.bool _)) (rE ?_)))
  try dsimp only [w0,w1,w2,w3]
  try dsimp only [w0,w1,w2,w3]
  exact J0_snd  h
end
end unicode_utf8_DecodeRuneInString
namespace strings_explode
theorem at_ : FnAt Tryz.prog 70 Tryz.f70 := ⟨Tryz.func70,by kernel_rfl⟩
noncomputable def d0 := (Tryz.f70.body).getD .skip
noncomputable def r1 := kR (kA d0)
noncomputable def r3 := kR (kA (kB d0))
noncomputable def r6 := kR (kA (kA (kB (kB d0))))
noncomputable def r8 := kR (kA (kB (kA (kB (kB d0)))))
noncomputable def d10 := kB (kB (kB d0))
noncomputable def r11 := kR (kA d10)
noncomputable def r14 := kR (kA (kA (kB d10)))
noncomputable def d15 := kB (kA (kB d10))
noncomputable def r19 := kR (kA (kA (kA (kA d15))))
noncomputable def d23 := kB (kA (kA d15))
noncomputable def r26 := kR (kA (kA (kA d23)))
noncomputable def r28 := kR (kA (kB (kA (kA d23))))
noncomputable def r29 := kR (kB (kB (kA (kA d23))))
noncomputable def r30 := kR (kB d23)
noncomputable def r33 := kR (kA (kA (kB (kB d10))))
noncomputable def r35 := kR (kA (kB (kA (kB (kB d10)))))
noncomputable def r38 := kR (kA (kB (kB (kB d10))))
noncomputable def c37 : Code := .seq (.region 13 r38 false) .ret
noncomputable def c31 : Code := .seq (.seq (.region 11 r33 false) (.cond (.tmp 43) (.region 12 r35 false) .skip)) c37
noncomputable def c17 : Code := .seq (.seq (.region 6 r19 false) (.cond (.tmp 25) .skip (.exit 0))) (.seq (.block 1 (.seq (.region 8 r26 false) (.seq (.region 9 r28 false) (.region 10 r29 false)))) (.region 7 r30 false))
noncomputable def c10 : Code := .seq (.region 4 r11 false) (.seq (.seq (.region 5 r14 false) (.block 0 (.loop c17))) c31)
noncomputable def c7 : Code := .cond (.tmp 18) (.region 3 r8 false) .skip
noncomputable def c0 : Code := .seq (.region 0 r1 false) (.seq (.region 1 r3 false) (.seq (.seq (.region 2 r6 false) c7) c10))
theorem body : Tryz.f70.body = some c0 := by kernel_rfl
section
variable {base : Nat} {W0 : World} {β0 : Bt}
def J3 (k : Nat) (y6 : Sl) (S : HS) : Option ((Sl) × HS) :=
 some (y6,S)
theorem J3_snd {k : Nat}  {y6 : Sl} {S : HS} {p : (Sl) × HS} {Ga Gb Gc Gd Ge Gf Gh Gi Gj Gk Gl Gm Gn Go Gp Gq Gr Gs Gt Gu Gv Gw Gx Gy Gz Ka Kb Kc Kd Ke Kf Kg Kh Ki Kj Kk Kl Km Kn Ko Kp Kq Kr Ks Kt Ku Kv Kw Kx : HV} (h : J3 k y6 S = some p) : HRun Tryz.prog base W0 β0 70 none [.code c37] ⟨[Ga,Gb,Gc,Gd,Ge,Gf,(Sl.hv y6),Gh,Gi,Gj,Gk,Gl,Gm,Gn,Go,Gp,Gq,Gr,Gs,Gt,Gu,Gv,Gw,Gx,Gy,Gz,Ka,Kb,Kc,Kd,Ke,Kf,Kg,Kh,Ki,Kj,Kk,Kl,Km,Kn,Ko,Kp,Kq,Kr,Ks,Kt,Ku,Kv,Kw,Kx],[]⟩ S (fun v S1 => v = (Sl.hv p.1) ∧ S1 = p.2) := by
 unfold J3 at h
 refine qQ rfl (qR rfl rfl (qS 49 rfl (oM · rfl) (qS 4 rfl (oA · rfl) (rE ?_))))
 try dsimp only [w0,w1,w2,w3]
 cases h
 exact q_ret rfl at_.at_ rfl (res1 rfl rfl) ⟨rfl,rfl⟩
def L2 (k : Nat) : Nat → (List UInt8) → Int → Sl → Int → HS → Option ((Sl) × HS)
 | 0,_,_,_,_,_ => none
 | n + 1,y0,y1,y6,y7,S =>
  (if y7 < (w64 (y1 - 1)) then
  (Option.bind (unicode_utf8_DecodeRuneInString.f y0 S) fun p6 =>
  (if 0 ≤ (0 : Int) ∧ (0 : Int) ≤ p6.1.2 ∧ (p6.1.2 : Int) ≤ (List.length y0 : Int) then
  (Option.bind (HS.idx p6.2 y6 y7 1) fun p8 =>
  (Option.bind (HS.sets p6.2 p8 [(.str (ssub y0 0 p6.1.2))]) fun p9 =>
  (if 0 ≤ (p6.1.2 : Int) ∧ (p6.1.2 : Int) ≤ (List.length y0 : Int) ∧ ((List.length y0 : Int) : Int) ≤ (List.length y0 : Int) then
  (L2 k n) (ssub y0 p6.1.2 (List.length y0 : Int)) y1 y6 (w64 (y7 + 1)) p9 else none))) else none)) else
  (if y1 > 0 then
  (Option.bind (HS.idx S y6 (w64 (y1 - 1)) 1) fun p12 =>
  (Option.bind (HS.sets S p12 [(.str y0)]) fun p13 =>
  J3 k y6 p13)) else
  J3 k y6 S))
theorem L2_snd {k : Nat}  : ∀ {n : Nat} ⦃y0 : (List UInt8)⦄ ⦃y1 : Int⦄ ⦃y6 : Sl⦄ ⦃y7 : Int⦄ ⦃S : HS⦄ ⦃p : (Sl) × HS⦄ ⦃Gc Gd Ge Gf Gi Gj Gk Gl Gm Gn Go Gp Gq Gr Gs Gt Gu Gv Gw Gx Gy Gz Ka Kb Kc Kd Ke Kf Kg Kh Ki Kj Kk Kl Km Kn Ko Kp Kq Kr Ks Kt Ku Kv Kw Kx : HV⦄,L2 k n y0 y1 y6 y7 S = some p → HRun Tryz.prog base W0 β0 70 none [.inLoop c17,.inBlock 0,.code c31] ⟨[(.str y0),(.int .i64 y1),Gc,Gd,Ge,Gf,(Sl.hv y6),(.int .i64 y7),Gi,Gj,Gk,Gl,Gm,Gn,Go,Gp,Gq,Gr,Gs,Gt,Gu,Gv,Gw,Gx,Gy,Gz,Ka,Kb,Kc,Kd,Ke,Kf,Kg,Kh,Ki,Kj,Kk,Kl,Km,Kn,Ko,Kp,Kq,Kr,Ks,Kt,Ku,Kv,Kw,Kx],[]⟩ S (fun v S1 => v = (Sl.hv p.1) ∧ S1 = p.2) := by
 intro n
 induction n with
 | zero => intro _ _ _ _ _ _ _ _ _ _ _ _ _ _ _ _ _ _ _ _ _ _ _ _ _ _ _ _ _ _ _ _ _ _ _ _ _ _ _ _ _ _ _ _ _ _ _ _ _ _ _ _ h; cases h
 | succ n ih =>
  intro y0 y1 y6 y7 S p Gc Gd Ge Gf Gi Gj Gk Gl Gm Gn Go Gp Gq Gr Gs Gt Gu Gv Gw Gx Gy Gz Ka Kb Kc Kd Ke Kf Kg Kh Ki Kj Kk Kl Km Kn Ko Kp Kq Kr Ks Kt Ku Kv Kw Kx h
  simp only [L2] at h
  refine hr_inLoop (qQ rfl (qQ rfl (qR rfl rfl (qS 22 rfl (oM · rfl) (qS 23 rfl (oM · rfl) (qS 24 rfl (oC · rfl rfl) (qS 25 rfl (oB · rfl rfl rfl) (rE ?_))))))))
  try dsimp only [w0,w1,w2,w3]
  rcases ifc h with ⟨hc5,h⟩ | ⟨hc5,h⟩
  ·obtain ⟨p6,hp6,h⟩ := bindo h
   refine q_cond_t rfl (.tmp rfl) (decide_eq_true hc5) (q_skipc rfl (qQ rfl (q_block rfl (qQ rfl (qR rfl rfl (qS 29 rfl (oM · rfl) (q_call (dst := some 30) rfl (.func _) (.cons (.tmp rfl) Evs.nil) (HInv.static unicode_utf8_DecodeRuneInString.at_ unicode_utf8_DecodeRuneInString.body (unicode_utf8_DecodeRuneInString.snd  hp6)) ?_)))))))
   rintro _ _ ⟨rfl,rfl⟩
   refine qS 28 rfl (oM · rfl) (qS 31 rfl (ok_extract · (.tmp rfl) rfl) ?_)
   try dsimp only [w0,w1,w2,w3]
   refine qS 32 rfl (ok_extract · (.tmp rfl) rfl) (qS 8 rfl (oA · rfl) (qS 9 rfl (oA · rfl) (rE ?_)))
   try dsimp only [w0,w1,w2,w3]
   refine qQ rfl (qR rfl rfl (qS 33 rfl (oM · rfl) (qS 34 rfl (oM · rfl) (qS 35 rfl (oM · rfl) (qS 36 rfl (oM · rfl) ?_)))))
   try dsimp only [w0,w1,w2,w3]
   obtain ⟨hg7,h⟩ := gd h
   obtain ⟨p8,hp8,h⟩ := bindo h
   obtain ⟨p9,hp9,h⟩ := bindo h
   refine qS 37 rfl (ok_slice_str (kl := .i64) (kh := .i64) (l := 0) (h := p6.1.2) · tu9 (.tmp rfl) (.inl ⟨rfl,rfl⟩) (.inr ⟨_,rfl,(.tmp rfl)⟩) hg7.1 hg7.2.1 hg7.2.2) (qS 38 rfl (oX (s := y6) · tu38 sz9 rfl rfl hp8) (qN rfl (ok_store_s (v := (.str (ssub y0 0 p6.1.2))) · sz9 (.tmp rfl) rfl (.tmp rfl) rfl hp9) (rE ?_)))
   try dsimp only [w0,w1,w2,w3]
   obtain ⟨hg10,h⟩ := gd h
   refine qR rfl rfl (qS 39 rfl (oM · rfl) (qS 40 rfl (oM · rfl) (qS 41 rfl (ok_slice_str (kl := .i64) (kh := .i64) (l := p6.1.2) (h := (List.length y0 : Int)) · tu9 (.tmp rfl) (.inr ⟨_,rfl,(.tmp rfl)⟩) (.inl ⟨rfl,rfl⟩) hg10.1 hg10.2.1 hg10.2.2) (qS 0 rfl (oA · rfl) (rE ?_)))))
   try dsimp only [w0,w1,w2,w3]
   refine hr_inBlock (qR rfl rfl (qS 26 rfl (oM · rfl) (qS 27 rfl (oC · rfl rfl) (qS 7 rfl (oA · rfl) (rE ?_)))))
   try dsimp only [w0,w1,w2,w3]
   try dsimp only [w0,w1,w2,w3]
   exact ih h
  ·refine q_cond_f rfl (.tmp rfl) (decide_eq_false hc5) (q_exit rfl rfl (qQ rfl (qQ rfl (qR rfl rfl (qS 42 rfl (oM · rfl) (qS 43 rfl (oC · rfl rfl) (rE ?_)))))))
   try dsimp only [w0,w1,w2,w3]
   rcases ifc h with ⟨hc11,h⟩ | ⟨hc11,h⟩
   ·refine q_cond_t rfl (.tmp rfl) (decide_eq_true hc11) (qR rfl rfl (qS 44 rfl (oM · rfl) (qS 45 rfl (oM · rfl) (qS 46 rfl (oC · rfl rfl) (qS 47 rfl (oM · rfl) ?_)))))
    try dsimp only [w0,w1,w2,w3]
    obtain ⟨p12,hp12,h⟩ := bindo h
    obtain ⟨p13,hp13,h⟩ := bindo h
    refine qS 48 rfl (oX (s := y6) · tu38 sz9 rfl rfl hp12) (qN rfl (ok_store_s (v := (.str y0)) · sz9 (.tmp rfl) rfl (.tmp rfl) rfl hp13) (rE ?_))
    try dsimp only [w0,w1,w2,w3]
    try dsimp only [w0,w1,w2,w3]
    exact J3_snd  h
   ·refine q_cond_f rfl (.tmp rfl) (decide_eq_false hc11) (q_skipc rfl ?_)
    try dsimp only [w0,w1,w2,w3]
    exact J3_snd  h
def J1 (k : Nat) (y0 : (List UInt8)) (y1 : Int) (S : HS) : Option ((Sl) × HS) :=
 (Option.bind (HS.make S y1 y1 [(.str [])]) fun p4 =>
 L2 k k y0 y1 (p4.1) 0 (p4.2))
theorem J1_snd {k : Nat}  {y0 : (List UInt8)} {y1 : Int} {S : HS} {p : (Sl) × HS} {Gc Gd Ge Gf Gg Gh Gi Gj Gk Gl Gm Gn Go Gp Gq Gr Gs Gt Gu Gv Gw Gx Gy Gz Ka Kb Kc Kd Ke Kf Kg Kh Ki Kj Kk Kl Km Kn Ko Kp Kq Kr Ks Kt Ku Kv Kw Kx : HV} (h : J1 k y0 y1 S = some p) : HRun Tryz.prog base W0 β0 70 none [.code c10] ⟨[(.str y0),(.int .i64 y1),Gc,Gd,Ge,Gf,Gg,Gh,Gi,Gj,Gk,Gl,Gm,Gn,Go,Gp,Gq,Gr,Gs,Gt,Gu,Gv,Gw,Gx,Gy,Gz,Ka,Kb,Kc,Kd,Ke,Kf,Kg,Kh,Ki,Kj,Kk,Kl,Km,Kn,Ko,Kp,Kq,Kr,Ks,Kt,Ku,Kv,Kw,Kx],[]⟩ S (fun v S1 => v = (Sl.hv p.1) ∧ S1 = p.2) := by
 unfold J1 at h
 obtain ⟨p4,hp4,h⟩ := bindo h
 refine qQ rfl (qR rfl rfl (qS 20 rfl (oM · rfl) (qS 21 rfl (ok_make el38 · (.tmp rfl) (.tmp rfl) hp4) (qS 6 rfl (oA · rfl) (rE ?_)))))
 try dsimp only [w0,w1,w2,w3]
 refine qQ rfl (qQ rfl (qR rfl rfl (qS 7 rfl (ok_assign · (.int _ _)) (rE ?_))))
 try dsimp only [w0,w1,w2,w3]
 refine q_block rfl (q_loop rfl ?_)
 try dsimp only [w0,w1,w2,w3]
 exact L2_snd  h
def J0 (k : Nat) (y0 : (List UInt8)) (y1 : Int) (y5 : Int) (y18 : Bool) (S : HS) : Option ((Sl) × HS) :=
 (if y18 = true then
 J1 k y0 y5 S else
 J1 k y0 y1 S)
theorem J0_snd {k : Nat}  {y0 : (List UInt8)} {y1 : Int} {y5 : Int} {y18 : Bool} {S : HS} {p : (Sl) × HS} {Gc Gd Ge Gg Gh Gi Gj Gk Gl Gm Gn Go Gp Gq Gr Gt Gu Gv Gw Gx Gy Gz Ka Kb Kc Kd Ke Kf Kg Kh Ki Kj Kk Kl Km Kn Ko Kp Kq Kr Ks Kt Ku Kv Kw Kx : HV} (h : J0 k y0 y1 y5 y18 S = some p) : HRun Tryz.prog base W0 β0 70 none [.code c7,.code c10] ⟨[(.str y0),(.int .i64 y1),Gc,Gd,Ge,(.int .i64 y5),Gg,Gh,Gi,Gj,Gk,Gl,Gm,Gn,Go,Gp,Gq,Gr,(.bool y18),Gt,Gu,Gv,Gw,Gx,Gy,Gz,Ka,Kb,Kc,Kd,Ke,Kf,Kg,Kh,Ki,Kj,Kk,Kl,Km,Kn,Ko,Kp,Kq,Kr,Ks,Kt,Ku,Kv,Kw,Kx],[]⟩ S (fun v S1 => v = (Sl.hv p.1) ∧ S1 = p.2) := by
 unfold J0 at h
 rcases ifc h with ⟨hc3,h⟩ | ⟨hc3,h⟩
 ·refine q_cond_t rfl (.tmp rfl) hc3 (qR rfl rfl (qS 19 rfl (oM · rfl) (qS 1 rfl (oA · rfl) (rE ?_))))
  try dsimp only [w0,w1,w2,w3]
  try dsimp only [w0,w1,w2,w3]
  exact J1_snd  h
 ·refine q_cond_f rfl (.tmp rfl) (bfalse hc3) (q_skipc rfl ?_)
  try dsimp only [w0,w1,w2,w3]
  exact J1_snd  h
def f (k : Nat) (x0 : (List UInt8)) (x1 : Int) (S : HS) : Option ((Sl) × HS) :=
 (Option.bind (unicode_utf8_RuneCountInString.f k x0) fun p1 =>
 (if x1 < 0 then
 J0 k x0 x1 p1 true S else
 J0 k x0 x1 p1 (decide (x1 > p1)) S))
theorem snd {k : Nat} {x0 : (List UInt8)} {x1 : Int} {S : HS}  {p : (Sl) × HS} (h : f k x0 x1 S = some p) : HCall Tryz.prog base W0 β0 70 [(.str x0),(.int .i64 x1)] S (fun v S1 => v = (Sl.hv p.1) ∧ S1 = p.2) := by
 unfold f at h
 refine HCall.of_run at_.at_ body ?_
 show HRun Tryz.prog base W0 β0 70 none [.code c0] ⟨[(.str x0),(.int .i64 x1),τ,τ,τ,τ,τ,τ,τ,τ,τ,τ,τ,τ,τ,τ,τ,τ,τ,τ,τ,τ,τ,τ,τ,τ,τ,τ,τ,τ,τ,τ,τ,τ,τ,τ,τ,τ,τ,τ,τ,τ,τ,τ,τ,τ,τ,τ,τ,τ],[]⟩ S _
 refine qQ rfl (qR rfl rfl (qS 4 rfl (ok_assign · (.const fun _ => .slNil none)) (rE ?_)))
 try dsimp only [w0,w1,w2,w3]
 obtain ⟨p1,hp1,h⟩ := bindo h
 refine qQ rfl (qR rfl rfl (qS 10 rfl (oM · rfl) (q_call (dst := some 11) rfl (.func _) (.cons (.tmp rfl) Evs.nil) (HInv.static unicode_utf8_RuneCountInString.at_ unicode_utf8_RuneCountInString.body (unicode_utf8_RuneCountInString.snd  hp1)) ?_)))
 rintro _ _ ⟨rfl,rfl⟩
 refine qS 5 rfl (oA · rfl) (rE ?_)
 try dsimp only [w0,w1,w2,w3]
 refine qQ rfl (qQ rfl (qR rfl rfl (qS 12 rfl (oM · rfl) (qS 13 rfl (oC · rfl rfl) (qS 14 rfl (oM · rfl) ?_)))))
 rcases ifc h with ⟨hc2,h⟩ | ⟨hc2,h⟩
 ·refine q_skip (dst := some 15) (t := 14) rfl rfl rfl (decide_eq_true hc2) ?_
  try dsimp only [w0,w1,w2,w3]
  refine q_skip (dst := some 16) (t := 14) rfl rfl rfl (decide_eq_true hc2) (q_skip (dst := some 17) (t := 14) rfl rfl rfl (decide_eq_true hc2) (qS 18 rfl (ok_pick_tt · (.tmp rfl) (decide_eq_true hc2) (.bool _)) (rE ?_)))
  try dsimp only [w0,w1,w2,w3]
  try dsimp only [w0,w1,w2,w3]
  exact J0_snd  h
 ·refine qG 14 15 rfl (decide_eq_false hc2) (oM · rfl) ?_
  try dsimp only [w0,w1,w2,w3]
  refine qG 14 16 rfl (decide_eq_false hc2) (oM · rfl) (qG 14 17 rfl (decide_eq_false hc2) (oB · rfl rfl rfl) (qS 18 rfl (ok_pick_ff · (.tmp rfl) (decide_eq_false hc2) (.tmp rfl)) (rE ?_)))
  try dsimp only [w0,w1,w2,w3]
  try dsimp only [w0,w1,w2,w3]
  exact J0_snd  h
end
end strings_explode
namespace strings_genSplit
theorem at_ : FnAt Tryz.prog 53 Tryz.f53 := ⟨Tryz.func53,by kernel_rfl⟩
noncomputable def d0 := (Tryz.f53.body).getD .skip
noncomputable def r1 := kR (kA d0)
noncomputable def r4 := kR (kA (kA (kB d0)))
noncomputable def r7 := kR (kA (kA (kB (kA (kB d0)))))
noncomputable def r12 := kR (kA (kA (kB (kB d0))))
noncomputable def r15 := kR (kA (kA (kB (kA (kB (kB d0))))))
noncomputable def d18 := kB (kB (kB d0))
noncomputable def r20 := kR (kA (kA d18))
noncomputable def r22 := kR (kA (kB (kA d18)))
noncomputable def r25 := kR (kA (kB d18))
noncomputable def r27 := kR (kA (kB (kB d18)))
noncomputable def d28 := kB (kB (kB d18))
noncomputable def r29 := kR (kA d28)
noncomputable def r31 := kR (kA (kB d28))
noncomputable def d33 := kA (kB (kB d28))
noncomputable def r37 := kR (kA (kA (kA (kA d33))))
noncomputable def d41 := kB (kA (kA d33))
noncomputable def r43 := kR (kA (kA d41))
noncomputable def r46 := kR (kA (kA (kB (kA d41))))
noncomputable def r51 := kR (kA (kB (kB (kA d41))))
noncomputable def r53 := kR (kA (kB (kB (kB (kA d41)))))
noncomputable def r54 := kR (kB (kB (kB (kB (kA d41)))))
noncomputable def r56 := kR (kA (kB (kB (kB d28))))
noncomputable def r58 := kR (kA (kB (kB (kB (kB d28)))))
noncomputable def c55 : Code := .seq (.region 17 r56 false) (.seq (.region 18 r58 false) .ret)
noncomputable def c35 : Code := .seq (.seq (.region 11 r37 false) (.cond (.tmp 36) .skip (.exit 0))) (.block 1 (.seq (.region 12 r43 false) (.seq (.seq (.region 13 r46 false) (.cond (.tmp 41) (.exit 0) .skip)) (.seq (.region 14 r51 false) (.seq (.region 15 r53 false) (.region 16 r54 false))))))
noncomputable def c24 : Code := .seq (.region 7 r25 false) (.seq (.region 8 r27 false) (.seq (.region 9 r29 false) (.seq (.region 10 r31 false) (.seq (.block 0 (.loop c35)) c55))))
noncomputable def c0 : Code := .seq (.region 0 r1 false) (.seq (.seq (.region 1 r4 false) (.cond (.tmp 13) (.seq (.region 2 r7 false) .ret) .skip)) (.seq (.seq (.region 3 r12 false) (.cond (.tmp 15) (.seq (.region 4 r15 false) .ret) .skip)) (.seq (.seq (.region 5 r20 false) (.cond (.tmp 20) (.region 6 r22 false) .skip)) c24)))
theorem body : Tryz.f53.body = some c0 := by kernel_rfl
section
variable {base : Nat} {W0 : World} {β0 : Bt}
def J2 (k : Nat) (y0 : (List UInt8)) (y9 : Sl) (y10 : Int) (S : HS) : Option ((Sl) × HS) :=
 (Option.bind (HS.idx S y9 y10 1) fun p10 =>
 (Option.bind (HS.sets S p10 [(.str y0)]) fun p11 =>
 (Option.bind (HS.cut p11 y9 0 (w64 (y10 + 1)) 1) fun p12 =>
 some (p12,p11))))
theorem J2_snd {k : Nat}  {y0 : (List UInt8)} {y9 : Sl} {y10 : Int} {S : HS} {p : (Sl) × HS} {Gb Gc Gd Ge Gf Gg Gh Gi Gl Gm Gn Go Gp Gq Gr Gs Gt Gu Gv Gw Gx Gy Gz Ka Kb Kc Kd Ke Kf Kg Kh Ki Kj Kk Kl Km Kn Ko Kp Kq Kr Ks Kt Ku Kv Kw Kx Ky Kz Ma Mb Mc Md Me Mf Mg Mh Mi Mj Mk Ml Mm Mn : HV} (h : J2 k y0 y9 y10 S = some p) : HRun Tryz.prog base W0 β0 53 none [.code c55] ⟨[(.str y0),Gb,Gc,Gd,Ge,Gf,Gg,Gh,Gi,(Sl.hv y9),(.int .i64 y10),Gl,Gm,Gn,Go,Gp,Gq,Gr,Gs,Gt,Gu,Gv,Gw,Gx,Gy,Gz,Ka,Kb,Kc,Kd,Ke,Kf,Kg,Kh,Ki,Kj,Kk,Kl,Km,Kn,Ko,Kp,Kq,Kr,Ks,Kt,Ku,Kv,Kw,Kx,Ky,Kz,Ma,Mb,Mc,Md,Me,Mf,Mg,Mh,Mi,Mj,Mk,Ml,Mm,Mn],[]⟩ S (fun v S1 => v = (Sl.hv p.1) ∧ S1 = p.2) := by
 unfold J2 at h
 obtain ⟨p10,hp10,h⟩ := bindo h
 refine qQ rfl (qR rfl rfl (qS 58 rfl (oM · rfl) (qS 59 rfl (oM · rfl) (qS 60 rfl (oM · rfl) (qS 61 rfl (oX (s := y9) · tu38 sz9 rfl rfl hp10) ?_)))))
 try dsimp only [w0,w1,w2,w3]
 obtain ⟨p11,hp11,h⟩ := bindo h
 refine qN rfl (ok_store_s (v := (.str y0)) · sz9 (.tmp rfl) rfl (.tmp rfl) rfl hp11) (rE ?_)
 try dsimp only [w0,w1,w2,w3]
 obtain ⟨p12,hp12,h⟩ := bindo h
 refine qQ rfl (qR rfl rfl (qS 62 rfl (oM · rfl) (qS 63 rfl (oM · rfl) (qS 64 rfl (oC · rfl rfl) (qS 65 rfl (ok_slice (kl := .i64) (kh := .i64) (s := y9) (l := 0) (h := (w64 (y10 + 1))) · tu38 si9 (.tmp rfl) (.inl ⟨rfl,rfl⟩) (.inr ⟨_,rfl,(.tmp rfl)⟩) hp12) ?_)))))
 try dsimp only [w0,w1,w2,w3]
 refine qS 8 rfl (oA · rfl) (rE ?_)
 try dsimp only [w0,w1,w2,w3]
 cases h
 exact q_ret rfl at_.at_ rfl (res1 rfl rfl) ⟨rfl,rfl⟩
def L1 (k : Nat) : Nat → (List UInt8) → (List UInt8) → Int → Int → Sl → Int → HS → Option ((Sl) × HS)
 | 0,_,_,_,_,_,_,_ => none
 | n + 1,y0,y1,y2,y3,y9,y10,S =>
  (if y10 < y3 then
  (Option.bind (strings_Index.f k y0 y1 S) fun p8 =>
  (if p8.1 < 0 then
  J2 k y0 y9 y10 p8.2 else
  (if 0 ≤ (0 : Int) ∧ (0 : Int) ≤ (w64 (p8.1 + y2)) ∧ ((w64 (p8.1 + y2)) : Int) ≤ (List.length y0 : Int) then
  (Option.bind (HS.idx p8.2 y9 y10 1) fun p14 =>
  (Option.bind (HS.sets p8.2 p14 [(.str (ssub y0 0 (w64 (p8.1 + y2))))]) fun p15 =>
  (if 0 ≤ ((w64 (p8.1 + (List.length y1 : Int))) : Int) ∧ ((w64 (p8.1 + (List.length y1 : Int))) : Int) ≤ (List.length y0 : Int) ∧ ((List.length y0 : Int) : Int) ≤ (List.length y0 : Int) then
  (L1 k n) (ssub y0 (w64 (p8.1 + (List.length y1 : Int))) (List.length y0 : Int)) y1 y2 y3 y9 (w64 (y10 + 1)) p15 else none))) else none))) else
  J2 k y0 y9 y10 S)
theorem L1_snd {k : Nat}  : ∀ {n : Nat} ⦃y0 : (List UInt8)⦄ ⦃y1 : (List UInt8)⦄ ⦃y2 : Int⦄ ⦃y3 : Int⦄ ⦃y9 : Sl⦄ ⦃y10 : Int⦄ ⦃S : HS⦄ ⦃p : (Sl) × HS⦄ ⦃Ge Gf Gg Gh Gi Gl Gm Gn Go Gp Gq Gr Gs Gt Gu Gv Gw Gx Gy Gz Ka Kb Kc Kd Ke Kf Kg Kh Ki Kj Kk Kl Km Kn Ko Kp Kq Kr Ks Kt Ku Kv Kw Kx Ky Kz Ma Mb Mc Md Me Mf Mg Mh Mi Mj Mk Ml Mm Mn : HV⦄,L1 k n y0 y1 y2 y3 y9 y10 S = some p → HRun Tryz.prog base W0 β0 53 none [.inLoop c35,.inBlock 0,.code c55] ⟨[(.str y0),(.str y1),(.int .i64 y2),(.int .i64 y3),Ge,Gf,Gg,Gh,Gi,(Sl.hv y9),(.int .i64 y10),Gl,Gm,Gn,Go,Gp,Gq,Gr,Gs,Gt,Gu,Gv,Gw,Gx,Gy,Gz,Ka,Kb,Kc,Kd,Ke,Kf,Kg,Kh,Ki,Kj,Kk,Kl,Km,Kn,Ko,Kp,Kq,Kr,Ks,Kt,Ku,Kv,Kw,Kx,Ky,Kz,Ma,Mb,Mc,Md,Me,Mf,Mg,Mh,Mi,Mj,Mk,Ml,Mm,Mn],[]⟩ S (fun v S1 => v = (Sl.hv p.1) ∧ S1 = p.2) := by
 intro n
 induction n with
 | zero => intro _ _ _ _ _ _ _ _ _ _ _ _ _ _ _ _ _ _ _ _ _ _ _ _ _ _ _ _ _ _ _ _ _ _ _ _ _ _ _ _ _ _ _ _ _ _ _ _ _ _ _ _ _ _ _ _ _ _ _ _ _ _ _ _ _ _ _ _ h; cases h
 | succ n ih =>
  intro y0 y1 y2 y3 y9 y10 S p Ge Gf Gg Gh Gi Gl Gm Gn Go Gp Gq Gr Gs Gt Gu Gv Gw Gx Gy Gz Ka Kb Kc Kd Ke Kf Kg Kh Ki Kj Kk Kl Km Kn Ko Kp Kq Kr Ks Kt Ku Kv Kw Kx Ky Kz Ma Mb Mc Md Me Mf Mg Mh Mi Mj Mk Ml Mm Mn h
  simp only [L1] at h
  refine hr_inLoop (qQ rfl (qQ rfl (qR rfl rfl (qS 34 rfl (oM · rfl) (qS 35 rfl (oM · rfl) (qS 36 rfl (oB · rfl rfl rfl) (rE ?_)))))))
  try dsimp only [w0,w1,w2,w3]
  rcases ifc h with ⟨hc7,h⟩ | ⟨hc7,h⟩
  ·obtain ⟨p8,hp8,h⟩ := bindo h
   refine q_cond_t rfl (.tmp rfl) (decide_eq_true hc7) (q_skipc rfl (q_block rfl (qQ rfl (qR rfl rfl (qS 37 rfl (oM · rfl) (qS 38 rfl (oM · rfl) (q_call (dst := some 39) rfl (.func _) (.cons (.tmp rfl) (.cons (.tmp rfl) Evs.nil)) (HInv.static strings_Index.at_ strings_Index.body (strings_Index.snd  hp8)) ?_)))))))
   rintro _ _ ⟨rfl,rfl⟩
   refine qS 11 rfl (oA · rfl) (rE ?_)
   try dsimp only [w0,w1,w2,w3]
   refine qQ rfl (qQ rfl (qR rfl rfl (qS 40 rfl (oM · rfl) (qS 41 rfl (oC · rfl rfl) (rE ?_)))))
   try dsimp only [w0,w1,w2,w3]
   rcases ifc h with ⟨hc9,h⟩ | ⟨hc9,h⟩
   ·refine q_cond_t rfl (.tmp rfl) (decide_eq_true hc9) (q_exit rfl rfl ?_)
    try dsimp only [w0,w1,w2,w3]
    exact J2_snd  h
   ·refine q_cond_f rfl (.tmp rfl) (decide_eq_false hc9) (q_skipc rfl (qQ rfl (qR rfl rfl (qS 42 rfl (oM · rfl) (qS 43 rfl (oM · rfl) (qS 44 rfl (oM · rfl) (qS 45 rfl (oM · rfl) ?_)))))))
    try dsimp only [w0,w1,w2,w3]
    obtain ⟨hg13,h⟩ := gd h
    obtain ⟨p14,hp14,h⟩ := bindo h
    refine qS 46 rfl (oM · rfl) (qS 47 rfl (oB · rfl rfl rfl) (qS 48 rfl (ok_slice_str (kl := .i64) (kh := .i64) (l := 0) (h := (w64 (p8.1 + y2))) · tu9 (.tmp rfl) (.inl ⟨rfl,rfl⟩) (.inr ⟨_,rfl,(.tmp rfl)⟩) hg13.1 hg13.2.1 hg13.2.2) (qS 49 rfl (oX (s := y9) · tu38 sz9 rfl rfl hp14) ?_)))
    try dsimp only [w0,w1,w2,w3]
    obtain ⟨p15,hp15,h⟩ := bindo h
    refine qN rfl (ok_store_s (v := (.str (ssub y0 0 (w64 (p8.1 + y2))))) · sz9 (.tmp rfl) rfl (.tmp rfl) rfl hp15) (rE ?_)
    try dsimp only [w0,w1,w2,w3]
    refine qQ rfl (qR rfl rfl (qS 50 rfl (oM · rfl) (qS 51 rfl (oM · rfl) (qS 52 rfl (oM · rfl) (qS 53 rfl (ok_len_str · rfl tu9 (.tmp rfl)) ?_)))))
    try dsimp only [w0,w1,w2,w3]
    obtain ⟨hg16,h⟩ := gd h
    refine qS 54 rfl (oB · rfl rfl rfl) (qS 55 rfl (ok_slice_str (kl := .i64) (kh := .i64) (l := (w64 (p8.1 + (List.length y1 : Int)))) (h := (List.length y0 : Int)) · tu9 (.tmp rfl) (.inr ⟨_,rfl,(.tmp rfl)⟩) (.inl ⟨rfl,rfl⟩) hg16.1 hg16.2.1 hg16.2.2) (qS 0 rfl (oA · rfl) (rE ?_)))
    try dsimp only [w0,w1,w2,w3]
    refine qR rfl rfl (qS 56 rfl (oM · rfl) (qS 57 rfl (oC · rfl rfl) (qS 10 rfl (oA · rfl) (rE ?_))))
    try dsimp only [w0,w1,w2,w3]
    refine hr_inBlock ?_
    try dsimp only [w0,w1,w2,w3]
    exact ih h
  ·refine q_cond_f rfl (.tmp rfl) (decide_eq_false hc7) (q_exit rfl rfl ?_)
   try dsimp only [w0,w1,w2,w3]
   exact J2_snd  h
def J0 (k : Nat) (y0 : (List UInt8)) (y1 : (List UInt8)) (y2 : Int) (y3 : Int) (S : HS) : Option ((Sl) × HS) :=
 (Option.bind (HS.make S (mn y3 (w64 ((List.length y0 : Int) + 1))) (mn y3 (w64 ((List.length y0 : Int) + 1))) [(.str [])]) fun p6 =>
 L1 k k y0 y1 y2 (w64 ((mn y3 (w64 ((List.length y0 : Int) + 1))) - 1)) (p6.1) 0 (p6.2))
theorem J0_snd {k : Nat}  {y0 : (List UInt8)} {y1 : (List UInt8)} {y2 : Int} {y3 : Int} {S : HS} {p : (Sl) × HS} {Ge Gf Gg Gh Gi Gj Gk Gl Gm Gn Go Gp Gq Gr Gs Gt Gu Gv Gw Gx Gy Gz Ka Kb Kc Kd Ke Kf Kg Kh Ki Kj Kk Kl Km Kn Ko Kp Kq Kr Ks Kt Ku Kv Kw Kx Ky Kz Ma Mb Mc Md Me Mf Mg Mh Mi Mj Mk Ml Mm Mn : HV} (h : J0 k y0 y1 y2 y3 S = some p) : HRun Tryz.prog base W0 β0 53 none [.code c24] ⟨[(.str y0),(.str y1),(.int .i64 y2),(.int .i64 y3),Ge,Gf,Gg,Gh,Gi,Gj,Gk,Gl,Gm,Gn,Go,Gp,Gq,Gr,Gs,Gt,Gu,Gv,Gw,Gx,Gy,Gz,Ka,Kb,Kc,Kd,Ke,Kf,Kg,Kh,Ki,Kj,Kk,Kl,Km,Kn,Ko,Kp,Kq,Kr,Ks,Kt,Ku,Kv,Kw,Kx,Ky,Kz,Ma,Mb,Mc,Md,Me,Mf,Mg,Mh,Mi,Mj,Mk,Ml,Mm,Mn],[]⟩ S (fun v S1 => v = (Sl.hv p.1) ∧ S1 = p.2) := by
 unfold J0 at h
 refine qQ rfl (qR rfl rfl (qS 25 rfl (oM · rfl) (qS 26 rfl (oM · rfl) (qS 27 rfl (ok_len_str · rfl tu9 (.tmp rfl)) (qS 28 rfl (oC · rfl rfl) ?_)))))
 try dsimp only [w0,w1,w2,w3]
 refine qS 29 rfl (ok_min · (.tmp rfl) (.tmp rfl)) (qS 3 rfl (oA · rfl) (rE ?_))
 try dsimp only [w0,w1,w2,w3]
 obtain ⟨p6,hp6,h⟩ := bindo h
 refine qQ rfl (qR rfl rfl (qS 30 rfl (oM · rfl) (qS 31 rfl (ok_make el38 · (.tmp rfl) (.tmp rfl) hp6) (qS 9 rfl (oA · rfl) (rE ?_)))))
 try dsimp only [w0,w1,w2,w3]
 refine qQ rfl (qR rfl rfl (qS 32 rfl (oM · rfl) (qS 33 rfl (oC · rfl rfl) (qS 3 rfl (oA · rfl) (rE ?_)))))
 try dsimp only [w0,w1,w2,w3]
 refine qQ rfl (qR rfl rfl (qS 10 rfl (ok_assign · (.int _ _)) (rE ?_)))
 try dsimp only [w0,w1,w2,w3]
 refine qQ rfl (q_block rfl (q_loop rfl ?_))
 try dsimp only [w0,w1,w2,w3]
 exact L1_snd  h
def f (k : Nat) (x0 : (List UInt8)) (x1 : (List UInt8)) (x2 : Int) (x3 : Int) (S : HS) : Option ((Sl) × HS) :=
 (if x3 = 0 then
 some (Sl.nil,S) else
 (if x1 = ([] : List UInt8) then
 (Option.bind (strings_explode.f k x0 x3 S) fun p3 =>
 some (p3.1,p3.2)) else
 (if x3 < 0 then
 (Option.bind (strings_Count.f x0 x1) fun p5 =>
 J0 k x0 x1 x2 (w64 (p5 + 1)) S) else
 J0 k x0 x1 x2 x3 S)))
theorem snd {k : Nat} {x0 : (List UInt8)} {x1 : (List UInt8)} {x2 : Int} {x3 : Int} {S : HS}  {p : (Sl) × HS} (h : f k x0 x1 x2 x3 S = some p) : HCall Tryz.prog base W0 β0 53 [(.str x0),(.str x1),(.int .i64 x2),(.int .i64 x3)] S (fun v S1 => v = (Sl.hv p.1) ∧ S1 = p.2) := by
 unfold f at h
 refine HCall.of_run at_.at_ body ?_
 show HRun Tryz.prog base W0 β0 53 none [.code c0] ⟨[(.str x0),(.str x1),(.int .i64 x2),(.int .i64 x3),τ,τ,τ,τ,τ,τ,τ,τ,τ,τ,τ,τ,τ,τ,τ,τ,τ,τ,τ,τ,τ,τ,τ,τ,τ,τ,τ,τ,τ,τ,τ,τ,τ,τ,τ,τ,τ,τ,τ,τ,τ,τ,τ,τ,τ,τ,τ,τ,τ,τ,τ,τ,τ,τ,τ,τ,τ,τ,τ,τ,τ,τ],[]⟩ S _
 refine qQ rfl (qR rfl rfl (qS 8 rfl (ok_assign · (.const fun _ => .slNil none)) (rE ?_)))
 try dsimp only [w0,w1,w2,w3]
 refine qQ rfl (qQ rfl (qR rfl rfl (qS 12 rfl (oM · rfl) (qS 13 rfl (oC · rfl rfl) (rE ?_)))))
 try dsimp only [w0,w1,w2,w3]
 rcases ifc h with ⟨hc1,h⟩ | ⟨hc1,h⟩
 ·refine q_cond_t rfl (.tmp rfl) (decide_eq_true hc1) (qQ rfl (qR rfl rfl (qS 8 rfl (ok_assign · (.const fun _ => .slNil none)) (rE ?_))))
  try dsimp only [w0,w1,w2,w3]
  cases h
  exact q_ret rfl at_.at_ rfl (res1 rfl rfl) ⟨rfl,rfl⟩
 ·refine q_cond_f rfl (.tmp rfl) (decide_eq_false hc1) (q_skipc rfl (qQ rfl (qQ rfl (qR rfl rfl (qS 14 rfl (oM · rfl) (qS 15 rfl (ok_sbin · (.tmp rfl) (.str _) rfl) (rE ?_)))))))
  try dsimp only [w0,w1,w2,w3]
  rcases ifc h with ⟨hc2,h⟩ | ⟨hc2,h⟩
  ·obtain ⟨p3,hp3,h⟩ := bindo h
   refine q_cond_t rfl (.tmp rfl) (decide_eq_true hc2) (qQ rfl (qR rfl rfl (qS 16 rfl (oM · rfl) (qS 17 rfl (oM · rfl) (q_call (dst := some 18) rfl (.func _) (.cons (.tmp rfl) (.cons (.tmp rfl) Evs.nil)) (HInv.static strings_explode.at_ strings_explode.body (strings_explode.snd  hp3)) ?_)))))
   rintro _ _ ⟨rfl,rfl⟩
   refine qS 8 rfl (oA · rfl) (rE ?_)
   try dsimp only [w0,w1,w2,w3]
   cases h
   exact q_ret rfl at_.at_ rfl (res1 rfl rfl) ⟨rfl,rfl⟩
  ·refine q_cond_f rfl (.tmp rfl) (decide_eq_false hc2) (q_skipc rfl (qQ rfl (qQ rfl (qR rfl rfl (qS 19 rfl (oM · rfl) (qS 20 rfl (oC · rfl rfl) (rE ?_)))))))
   try dsimp only [w0,w1,w2,w3]
   rcases ifc h with ⟨hc4,h⟩ | ⟨hc4,h⟩
   ·obtain ⟨p5,hp5,h⟩ := bindo h
    refine q_cond_t rfl (.tmp rfl) (decide_eq_true hc4) (qR rfl rfl (qS 21 rfl (oM · rfl) (qS 22 rfl (oM · rfl) (q_call (dst := some 23) rfl (.func _) (.cons (.tmp rfl) (.cons (.tmp rfl) Evs.nil)) (HInv.static strings_Count.at_ strings_Count.body (strings_Count.snd  hp5)) ?_))))
    rintro _ _ ⟨rfl,rfl⟩
    refine qS 24 rfl (oC · rfl rfl) ?_
    try dsimp only [w0,w1,w2,w3]
    refine qS 3 rfl (oA · rfl) (rE ?_)
    try dsimp only [w0,w1,w2,w3]
    try dsimp only [w0,w1,w2,w3]
    exact J0_snd  h
   ·refine q_cond_f rfl (.tmp rfl) (decide_eq_false hc4) (q_skipc rfl ?_)
    try dsimp only [w0,w1,w2,w3]
    exact J0_snd  h
end
end strings_genSplit
namespace strings_Split
theorem at_ : FnAt Tryz.prog 36 Tryz.f36 := ⟨Tryz.func36,by kernel_rfl⟩
noncomputable def d0 := (Tryz.f36.body).getD .skip
noncomputable def r1 := kR (kA d0)
noncomputable def r3 := kR (kA (kB d0))
noncomputable def c0 : Code := .seq (.region 0 r1 false) (.seq (.region 1 r3 false) .ret)
theorem body : Tryz.f36.body = some c0 := by kernel_rfl
section
variable {base : Nat} {W0 : World} {β0 : Bt}
def f (k : Nat) (x0 : (List UInt8)) (x1 : (List UInt8)) (S : HS) : Option ((Sl) × HS) :=
 (Option.bind (strings_genSplit.f k x0 x1 0 (-1) S) fun p1 =>
 some (p1.1,p1.2))
theorem snd {k : Nat} {x0 : (List UInt8)} {x1 : (List UInt8)} {S : HS}  {p : (Sl) × HS} (h : f k x0 x1 S = some p) : HCall Tryz.prog base W0 β0 36 [(.str x0),(.str x1)] S (fun v S1 => v = (Sl.hv p.1) ∧ S1 = p.2) := by
 unfold f at h
 refine HCall.of_run at_.at_ body ?_
 show HRun Tryz.prog base W0 β0 36 none [.code c0] ⟨[(.str x0),(.str x1),τ,τ,τ,τ,τ,τ],[]⟩ S _
 refine qQ rfl (qR rfl rfl (qS 4 rfl (ok_assign · (.const fun _ => .slNil none)) (rE ?_)))
 try dsimp only [w0,w1,w2,w3]
 obtain ⟨p1,hp1,h⟩ := bindo h
 refine qQ rfl (qR rfl rfl (qS 5 rfl (oM · rfl) (qS 6 rfl (oM · rfl) (q_call (dst := some 7) rfl (.func _) (.cons (.tmp rfl) (.cons (.tmp rfl) (.cons (.int _ _) (.cons (.int _ _) Evs.nil)))) (HInv.static strings_genSplit.at_ strings_genSplit.body (strings_genSplit.snd  hp1)) ?_))))
 rintro _ _ ⟨rfl,rfl⟩
 refine qS 4 rfl (oA · rfl) (rE ?_)
 try dsimp only [w0,w1,w2,w3]
 cases h
 exact q_ret rfl at_.at_ rfl (res1 rfl rfl) ⟨rfl,rfl⟩
end
end strings_Split
namespace valid_letter
theorem at_ : FnAt Tryz.prog 89 Tryz.f89 := ⟨Tryz.func89,by kernel_rfl⟩
noncomputable def d0 := (Tryz.f89.body).getD .skip
noncomputable def r1 := kR (kA d0)
noncomputable def r3 := kR (kA (kB d0))
noncomputable def c4 : Code := .ret
noncomputable def c0 : Code := .seq (.region 0 r1 false) (.seq (.region 1 r3 false) c4)
theorem body : Tryz.f89.body = some c0 := by kernel_rfl
section
variable {base : Nat} {W0 : World} {β0 : Bt}
def J1  (y16 : Bool) : Option (Bool) :=
 some y16
theorem J1_snd   {y16 : Bool} {S : HS} {p : Bool} {Ga Gb Gc Gd Ge Gf Gg Gh Gi Gj Gk Gl Gm Gn Go Gp : HV} (h : J1  y16 = some p) : HRun Tryz.prog base W0 β0 89 none [.inRegion r3 [14],.code c4] ⟨[Ga,Gb,Gc,Gd,Ge,Gf,Gg,Gh,Gi,Gj,Gk,Gl,Gm,Gn,Go,Gp,(.bool y16)],[]⟩ S (fun v S1 => v = (.bool p) ∧ S1 = S) := by
 unfold J1 at h
 refine qS 2 rfl (oA · rfl) (rE ?_)
 try dsimp only [w0,w1,w2,w3]
 cases h
 exact q_ret rfl at_.at_ rfl (res1 rfl rfl) ⟨rfl,rfl⟩
def J2  (y9 : Bool) (y15 : Bool) : Option (Bool) :=
 (if y9 = true then
 J1 true else
 J1 y15)
theorem J2_snd   {y9 : Bool} {y15 : Bool} {S : HS} {p : Bool} {Ga Gb Gc Gd Ge Gf Gg Gh Gi Gk Gl Gm Gn Go Gq : HV} (h : J2  y9 y15 = some p) : HRun Tryz.prog base W0 β0 89 none [.inRegion r3 [13,14],.code c4] ⟨[Ga,Gb,Gc,Gd,Ge,Gf,Gg,Gh,Gi,(.bool y9),Gk,Gl,Gm,Gn,Go,(.bool y15),Gq],[]⟩ S (fun v S1 => v = (.bool p) ∧ S1 = S) := by
 unfold J2 at h
 rcases ifc h with ⟨hc4,h⟩ | ⟨hc4,h⟩
 ·refine qS 16 rfl (ok_pick_tt · (.tmp rfl) hc4 (.bool _)) ?_
  try dsimp only [w0,w1,w2,w3]
  exact J1_snd  h
 ·refine qS 16 rfl (ok_pick_ff · (.tmp rfl) (bfalse hc4) (.tmp rfl)) ?_
  try dsimp only [w0,w1,w2,w3]
  exact J1_snd  h
def J0  (y0 : Int) (y8 : Bool) : Option (Bool) :=
 (if y8 = true then
 J1 true else
 (if y0 ≥ 65 then
 J2 y8 (decide (y0 ≤ 90)) else
 J2 y8 false))
theorem J0_snd   {y0 : Int} {y8 : Bool} {S : HS} {p : Bool} {Gb Gc Gd Ge Gf Gg Gh Gj Gk Gl Gm Gn Go Gp Gq : HV} (h : J0  y0 y8 = some p) : HRun Tryz.prog base W0 β0 89 none [.inRegion r3 [6,7,8,9,10,11,12,13,14],.code c4] ⟨[(.int .i64 y0),Gb,Gc,Gd,Ge,Gf,Gg,Gh,(.bool y8),Gj,Gk,Gl,Gm,Gn,Go,Gp,Gq],[]⟩ S (fun v S1 => v = (.bool p) ∧ S1 = S) := by
 unfold J0 at h
 refine qS 9 rfl (oM · rfl) ?_
 rcases ifc h with ⟨hc2,h⟩ | ⟨hc2,h⟩
 ·refine q_skip (dst := some 10) (t := 9) rfl rfl rfl hc2 ?_
  try dsimp only [w0,w1,w2,w3]
  refine q_skip (dst := some 11) (t := 9) rfl rfl rfl hc2 (q_skip (dst := some 12) (t := 9) rfl rfl rfl hc2 (q_skip_u (dst := some 13) (t := 12) rfl rfl rfl (q_skip_u (dst := some 14) (t := 12) rfl rfl rfl ?_)))
  try dsimp only [w0,w1,w2,w3]
  refine q_skip (dst := some 15) (t := 9) rfl rfl rfl hc2 (qS 16 rfl (ok_pick_tt · (.tmp rfl) hc2 (.bool _)) ?_)
  try dsimp only [w0,w1,w2,w3]
  exact J1_snd  h
 ·refine qG 9 10 rfl (bfalse hc2) (oM · rfl) ?_
  try dsimp only [w0,w1,w2,w3]
  refine qG 9 11 rfl (bfalse hc2) (oC · rfl rfl) (qG 9 12 rfl (bfalse hc2) (oM · rfl) ?_)
  rcases ifc h with ⟨hc3,h⟩ | ⟨hc3,h⟩
  ·refine qG 12 13 rfl (decide_eq_true hc3) (oM · rfl) (qG 12 14 rfl (decide_eq_true hc3) (oC · rfl rfl) ?_)
   try dsimp only [w0,w1,w2,w3]
   refine qG 9 15 rfl (bfalse hc2) (ok_pick_tt · (.tmp rfl) (decide_eq_true hc3) (.tmp rfl)) ?_
   try dsimp only [w0,w1,w2,w3]
   exact J2_snd  h
  ·refine q_skip (dst := some 13) (t := 12) rfl rfl rfl (decide_eq_false hc3) (q_skip (dst := some 14) (t := 12) rfl rfl rfl (decide_eq_false hc3) ?_)
   try dsimp only [w0,w1,w2,w3]
   refine qG 9 15 rfl (bfalse hc2) (ok_pick_ff · (.tmp rfl) (decide_eq_false hc3) (.bool _)) ?_
   try dsimp only [w0,w1,w2,w3]
   exact J2_snd  h
def f (x0 : Int) : Option (Bool) :=
 (if x0 ≥ 97 then
 J0 x0 (decide (x0 ≤ 122)) else
 J0 x0 false)
theorem snd {x0 : Int} {S : HS}  {p : Bool} (h : f x0 = some p) : HCall Tryz.prog base W0 β0 89 [(.int .i64 x0)] S (fun v S1 => v = (.bool p) ∧ S1 = S) := by
 unfold f at h
 refine HCall.of_run at_.at_ body ?_
 show HRun Tryz.prog base W0 β0 89 none [.code c0] ⟨[(.int .i64 x0),τ,τ,τ,τ,τ,τ,τ,τ,τ,τ,τ,τ,τ,τ,τ,τ],[]⟩ S _
 refine qQ rfl (qR rfl rfl (qS 2 rfl (ok_assign · (.bool _)) (rE ?_)))
 try dsimp only [w0,w1,w2,w3]
 refine qQ rfl (qR rfl rfl (qS 3 rfl (oM · rfl) (qS 4 rfl (oC · rfl rfl) (qS 5 rfl (oM · rfl) ?_))))
 rcases ifc h with ⟨hc1,h⟩ | ⟨hc1,h⟩
 ·refine qG 5 6 rfl (decide_eq_true hc1) (oM · rfl) ?_
  try dsimp only [w0,w1,w2,w3]
  refine qG 5 7 rfl (decide_eq_true hc1) (oC · rfl rfl) (qS 8 rfl (ok_pick_tt · (.tmp rfl) (decide_eq_true hc1) (.tmp rfl)) ?_)
  try dsimp only [w0,w1,w2,w3]
  exact J0_snd  h
 ·refine q_skip (dst := some 6) (t := 5) rfl rfl rfl (decide_eq_false hc1) ?_
  try dsimp only [w0,w1,w2,w3]
  refine q_skip (dst := some 7) (t := 5) rfl rfl rfl (decide_eq_false hc1) (qS 8 rfl (ok_pick_ff · (.tmp rfl) (decide_eq_false hc1) (.bool _)) ?_)
  try dsimp only [w0,w1,w2,w3]
  exact J0_snd  h
end
end valid_letter
namespace valid_has
theorem at_ : FnAt Tryz.prog 90 Tryz.f90 := ⟨Tryz.func90,by kernel_rfl⟩
noncomputable def d0 := (Tryz.f90.body).getD .skip
noncomputable def r1 := kR (kA d0)
noncomputable def r3 := kR (kA (kB d0))
noncomputable def c0 : Code := .seq (.region 0 r1 false) (.seq (.region 1 r3 false) .ret)
theorem body : Tryz.f90.body = some c0 := by kernel_rfl
section
variable {base : Nat} {W0 : World} {β0 : Bt}
def f (x0 : (List UInt8)) (x1 : Int) : Option (Bool) :=
 (Option.bind (strings_IndexByte.f x0 (w8 x1)) fun p1 =>
 some (decide (p1 ≥ 0)))
theorem snd {x0 : (List UInt8)} {x1 : Int} {S : HS}  {p : Bool} (h : f x0 x1 = some p) : HCall Tryz.prog base W0 β0 90 [(.str x0),(.int .i64 x1)] S (fun v S1 => v = (.bool p) ∧ S1 = S) := by
 unfold f at h
 refine HCall.of_run at_.at_ body ?_
 show HRun Tryz.prog base W0 β0 90 none [.code c0] ⟨[(.str x0),(.int .i64 x1),τ,τ,τ,τ,τ,τ,τ,τ],[]⟩ S _
 refine qQ rfl (qR rfl rfl (qS 4 rfl (ok_assign · (.bool _)) (rE ?_)))
 try dsimp only [w0,w1,w2,w3]
 obtain ⟨p1,hp1,h⟩ := bindo h
 refine qQ rfl (qR rfl rfl (qS 5 rfl (oM · rfl) (qS 6 rfl (oM · rfl) (qS 7 rfl (ok_conv_int · tu3 tu5 (.tmp rfl)) (q_call (dst := some 8) rfl (.func _) (.cons (.tmp rfl) (.cons (.tmp rfl) Evs.nil)) (HInv.static strings_IndexByte.at_ strings_IndexByte.body (strings_IndexByte.snd  hp1)) ?_)))))
 rintro _ _ ⟨rfl,rfl⟩
 try dsimp only [w0,w1,w2,w3]
 refine qS 9 rfl (oC · rfl rfl) (qS 4 rfl (oA · rfl) (rE ?_))
 try dsimp only [w0,w1,w2,w3]
 cases h
 exact q_ret rfl at_.at_ rfl (res1 rfl rfl) ⟨rfl,rfl⟩
end
end valid_has
namespace valid_kinds
theorem at_ : FnAt Tryz.prog 72 Tryz.f72 := ⟨Tryz.func72,by kernel_rfl⟩
noncomputable def d0 := (Tryz.f72.body).getD .skip
noncomputable def r1 := kR (kA d0)
noncomputable def r3 := kR (kA (kB d0))
noncomputable def d5 := kA (kB (kB d0))
noncomputable def r6 := kR (kA d5)
noncomputable def d9 := kA (kA (kB d5))
noncomputable def r10 := kR (kA d9)
noncomputable def d16 := kA (kB (kB d9))
noncomputable def r18 := kR (kA (kA d16))
noncomputable def r20 := kR (kA (kB (kA d16)))
noncomputable def d21 := kB (kB (kA d16))
noncomputable def r22 := kR (kA d21)
noncomputable def r25 := kR (kA (kA (kB d21)))
noncomputable def r27 := kR (kA (kB (kA (kB d21))))
noncomputable def r31 := kR (kA (kA (kB (kB d21))))
noncomputable def r33 := kR (kA (kB (kA (kB (kB d21)))))
noncomputable def d35 := kB (kB (kB d21))
noncomputable def r37 := kR (kA (kA d35))
noncomputable def r39 := kR (kA (kB (kA d35)))
noncomputable def r43 := kR (kA (kA (kB d35)))
noncomputable def r45 := kR (kA (kB (kA (kB d35))))
noncomputable def r49 := kR (kA (kA (kB (kB d35))))
noncomputable def r51 := kR (kA (kB (kA (kB (kB d35)))))
noncomputable def d53 := kB (kB (kB d35))
noncomputable def r55 := kR (kA (kA d53))
noncomputable def r57 := kR (kA (kB (kA d53)))
noncomputable def r60 := kR (kA (kB d53))
noncomputable def r62 := kR (kA (kB (kB d53)))
noncomputable def r64 := kR (kB (kB (kB d9)))
noncomputable def r66 := kR (kA (kB (kB (kB d0))))
noncomputable def c65 : Code := .seq (.region 22 r66 false) .ret
noncomputable def c64 : Code := .region 21 r64 false
noncomputable def c59 : Code := .seq (.region 19 r60 false) (.cond (.tmp 86) (.region 20 r62 false) .skip)
noncomputable def c56 : Code := .cond (.tmp 78) (.region 18 r57 false) .skip
noncomputable def c53 : Code := .seq (.seq (.region 17 r55 false) c56) c59
noncomputable def c50 : Code := .cond (.tmp 68) (.region 16 r51 false) .skip
noncomputable def c47 : Code := .seq (.seq (.region 15 r49 false) c50) c53
noncomputable def c44 : Code := .cond (.tmp 54) (.region 14 r45 false) .skip
noncomputable def c41 : Code := .seq (.seq (.region 13 r43 false) c44) c47
noncomputable def c35 : Code := .seq (.seq (.region 11 r37 false) (.cond (.tmp 43) (.region 12 r39 false) .skip)) c41
noncomputable def c32 : Code := .cond (.tmp 35) (.region 10 r33 false) .skip
noncomputable def c29 : Code := .seq (.seq (.region 9 r31 false) c32) c35
noncomputable def c26 : Code := .cond (.tmp 25) (.region 8 r27 false) .skip
noncomputable def c23 : Code := .seq (.seq (.region 7 r25 false) c26) c29
noncomputable def c21 : Code := .seq (.region 6 r22 false) c23
noncomputable def c9 : Code := .seq (.region 3 r10 false) (.seq (.cond (.tmp 6) .skip (.exit 0)) (.seq (.block 1 (.seq (.region 4 r18 false) (.seq (.region 5 r20 false) c21))) c64))
noncomputable def c0 : Code := .seq (.region 0 r1 false) (.seq (.region 1 r3 false) (.seq (.seq (.region 2 r6 false) (.block 0 (.loop c9))) c65))
theorem body : Tryz.f72.body = some c0 := by kernel_rfl
section
variable {base : Nat} {W0 : World} {β0 : Bt}
def J15 (k : Nat) (rec0 : (Option HA) → (Option HA) → Int → HS → Option (((List HV)) × HS)) (y0 : (Option HA)) (y1 : (Option HA)) (y5 : Int) (S : HS) : Option (((List HV)) × HS) :=
 rec0 y0 y1 (w64 (y5 + 1)) S
theorem J15_snd {k : Nat} {rec0 : (Option HA) → (Option HA) → Int → HS → Option (((List HV)) × HS)} (hrec0 : ∀ ⦃y0 : (Option HA)⦄ ⦃y1 : (Option HA)⦄ ⦃y5 : Int⦄ ⦃S : HS⦄ ⦃p : ((List HV)) × HS⦄ ⦃Gc Gd Ge Gg Gh Gi Gj Gk Gl Gm Gn Go Gp Gq Gr Gs Gt Gu Gv Gw Gx Gy Gz Ka Kb Kc Kd Ke Kf Kg Kh Ki Kj Kk Kl Km Kn Ko Kp Kq Kr Ks Kt Ku Kv Kw Kx Ky Kz Ma Mb Mc Md Me Mf Mg Mh Mi Mj Mk Ml Mm Mn Mo Mp Mq Mr Ms Mt Mu Mv Mw Mx My Mz Na Nb Nc Nd Ne Nf Ng Nh Ni Nj Nk Nl Nm Nn No Np : HV⦄,rec0 y0 y1 y5 S = some p → HRun Tryz.prog base W0 β0 72 none [.inLoop c9,.inBlock 0,.code c65] ⟨[(.ptr y0),(.ptr y1),Gc,Gd,Ge,(.int .i64 y5),Gg,Gh,Gi,Gj,Gk,Gl,Gm,Gn,Go,Gp,Gq,Gr,Gs,Gt,Gu,Gv,Gw,Gx,Gy,Gz,Ka,Kb,Kc,Kd,Ke,Kf,Kg,Kh,Ki,Kj,Kk,Kl,Km,Kn,Ko,Kp,Kq,Kr,Ks,Kt,Ku,Kv,Kw,Kx,Ky,Kz,Ma,Mb,Mc,Md,Me,Mf,Mg,Mh,Mi,Mj,Mk,Ml,Mm,Mn,Mo,Mp,Mq,Mr,Ms,Mt,Mu,Mv,Mw,Mx,My,Mz,Na,Nb,Nc,Nd,Ne,Nf,Ng,Nh,Ni,Nj,Nk,Nl,Nm,Nn,No,Np],[]⟩ S (fun v S1 => v = (.agg p.1) ∧ S1 = p.2)) {y0 : (Option HA)} {y1 : (Option HA)} {y5 : Int} {S : HS} {p : ((List HV)) × HS} {Gc Gd Ge Gg Gh Gi Gj Gk Gl Gm Gn Go Gp Gq Gr Gs Gt Gu Gv Gw Gx Gy Gz Ka Kb Kc Kd Ke Kf Kg Kh Ki Kj Kk Kl Km Kn Ko Kp Kq Kr Ks Kt Ku Kv Kw Kx Ky Kz Ma Mb Mc Md Me Mf Mg Mh Mi Mj Mk Ml Mm Mn Mo Mp Mq Mr Ms Mt Mu Mv Mw Mx My Mz Na Nb Nc Nd Ne Nf Ng Nh Ni Nj Nk Nl Nm Nn No Np : HV} (h : J15 k rec0 y0 y1 y5 S = some p) : HRun Tryz.prog base W0 β0 72 none [.code c64,.inLoop c9,.inBlock 0,.code c65] ⟨[(.ptr y0),(.ptr y1),Gc,Gd,Ge,(.int .i64 y5),Gg,Gh,Gi,Gj,Gk,Gl,Gm,Gn,Go,Gp,Gq,Gr,Gs,Gt,Gu,Gv,Gw,Gx,Gy,Gz,Ka,Kb,Kc,Kd,Ke,Kf,Kg,Kh,Ki,Kj,Kk,Kl,Km,Kn,Ko,Kp,Kq,Kr,Ks,Kt,Ku,Kv,Kw,Kx,Ky,Kz,Ma,Mb,Mc,Md,Me,Mf,Mg,Mh,Mi,Mj,Mk,Ml,Mm,Mn,Mo,Mp,Mq,Mr,Ms,Mt,Mu,Mv,Mw,Mx,My,Mz,Na,Nb,Nc,Nd,Ne,Nf,Ng,Nh,Ni,Nj,Nk,Nl,Nm,Nn,No,Np],[]⟩ S (fun v S1 => v = (.agg p.1) ∧ S1 = p.2) := by
 unfold J15 at h
 refine qR rfl rfl (qS 92 rfl (oC · rfl rfl) (qS 5 rfl (oM · rfl) (rE ?_)))
 try dsimp only [w0,w1,w2,w3]
 try dsimp only [w0,w1,w2,w3]
 exact hrec0 h
def J14 (k : Nat) (rec0 : (Option HA) → (Option HA) → Int → HS → Option (((List HV)) × HS)) (y0 : (Option HA)) (y1 : (Option HA)) (y2 : Int) (y5 : Int) (S : HS) : Option (((List HV)) × HS) :=
 (Option.bind (valid_has.f ([0,10,13] : List UInt8) y2) fun p58 =>
 (if (!p58) = true then
 (Option.bind (y1) fun p60 =>
 (if 0 ≤ (y2 : Int) ∧ (y2 : Int) < 256 then
 (Option.bind (HS.ldI S .u16 (HA.fld p60 (Int.toNat y2))) fun p62 =>
 (Option.bind (y1) fun p63 =>
 (if 0 ≤ (y2 : Int) ∧ (y2 : Int) < 256 then
 (Option.bind (HS.sets S (HA.fld p63 (Int.toNat y2)) [(.int .u16 (ior .u16 p62 64))]) fun p65 =>
 J15 k rec0 y0 y1 y5 p65) else none))) else none)) else
 J15 k rec0 y0 y1 y5 S))
theorem J14_snd {k : Nat} {rec0 : (Option HA) → (Option HA) → Int → HS → Option (((List HV)) × HS)} (hrec0 : ∀ ⦃y0 : (Option HA)⦄ ⦃y1 : (Option HA)⦄ ⦃y5 : Int⦄ ⦃S : HS⦄ ⦃p : ((List HV)) × HS⦄ ⦃Gc Gd Ge Gg Gh Gi Gj Gk Gl Gm Gn Go Gp Gq Gr Gs Gt Gu Gv Gw Gx Gy Gz Ka Kb Kc Kd Ke Kf Kg Kh Ki Kj Kk Kl Km Kn Ko Kp Kq Kr Ks Kt Ku Kv Kw Kx Ky Kz Ma Mb Mc Md Me Mf Mg Mh Mi Mj Mk Ml Mm Mn Mo Mp Mq Mr Ms Mt Mu Mv Mw Mx My Mz Na Nb Nc Nd Ne Nf Ng Nh Ni Nj Nk Nl Nm Nn No Np : HV⦄,rec0 y0 y1 y5 S = some p → HRun Tryz.prog base W0 β0 72 none [.inLoop c9,.inBlock 0,.code c65] ⟨[(.ptr y0),(.ptr y1),Gc,Gd,Ge,(.int .i64 y5),Gg,Gh,Gi,Gj,Gk,Gl,Gm,Gn,Go,Gp,Gq,Gr,Gs,Gt,Gu,Gv,Gw,Gx,Gy,Gz,Ka,Kb,Kc,Kd,Ke,Kf,Kg,Kh,Ki,Kj,Kk,Kl,Km,Kn,Ko,Kp,Kq,Kr,Ks,Kt,Ku,Kv,Kw,Kx,Ky,Kz,Ma,Mb,Mc,Md,Me,Mf,Mg,Mh,Mi,Mj,Mk,Ml,Mm,Mn,Mo,Mp,Mq,Mr,Ms,Mt,Mu,Mv,Mw,Mx,My,Mz,Na,Nb,Nc,Nd,Ne,Nf,Ng,Nh,Ni,Nj,Nk,Nl,Nm,Nn,No,Np],[]⟩ S (fun v S1 => v = (.agg p.1) ∧ S1 = p.2)) {y0 : (Option HA)} {y1 : (Option HA)} {y2 : Int} {y5 : Int} {S : HS} {p : ((List HV)) × HS} {Gd Ge Gg Gh Gi Gj Gk Gl Gm Gn Go Gp Gq Gr Gs Gt Gu Gv Gw Gx Gy Gz Ka Kb Kc Kd Ke Kf Kg Kh Ki Kj Kk Kl Km Kn Ko Kp Kq Kr Ks Kt Ku Kv Kw Kx Ky Kz Ma Mb Mc Md Me Mf Mg Mh Mi Mj Mk Ml Mm Mn Mo Mp Mq Mr Ms Mt Mu Mv Mw Mx My Mz Na Nb Nc Nd Ne Nf Ng Nh Ni Nj Nk Nl Nm Nn No Np : HV} (h : J14 k rec0 y0 y1 y2 y5 S = some p) : HRun Tryz.prog base W0 β0 72 none [.code c59,.inBlock 1,.code c64,.inLoop c9,.inBlock 0,.code c65] ⟨[(.ptr y0),(.ptr y1),(.int .i64 y2),Gd,Ge,(.int .i64 y5),Gg,Gh,Gi,Gj,Gk,Gl,Gm,Gn,Go,Gp,Gq,Gr,Gs,Gt,Gu,Gv,Gw,Gx,Gy,Gz,Ka,Kb,Kc,Kd,Ke,Kf,Kg,Kh,Ki,Kj,Kk,Kl,Km,Kn,Ko,Kp,Kq,Kr,Ks,Kt,Ku,Kv,Kw,Kx,Ky,Kz,Ma,Mb,Mc,Md,Me,Mf,Mg,Mh,Mi,Mj,Mk,Ml,Mm,Mn,Mo,Mp,Mq,Mr,Ms,Mt,Mu,Mv,Mw,Mx,My,Mz,Na,Nb,Nc,Nd,Ne,Nf,Ng,Nh,Ni,Nj,Nk,Nl,Nm,Nn,No,Np],[]⟩ S (fun v S1 => v = (.agg p.1) ∧ S1 = p.2) := by
 unfold J14 at h
 obtain ⟨p58,hp58,h⟩ := bindo h
 refine qQ rfl (qR rfl rfl (qS 84 rfl (oM · rfl) (q_call (dst := some 85) rfl (.func _) (.cons (.str _) (.cons (.tmp rfl) Evs.nil)) (HInv.static valid_has.at_ valid_has.body (valid_has.snd  hp58)) ?_)))
 rintro _ _ ⟨rfl,rfl⟩
 refine qS 86 rfl (ok_not · (.tmp rfl)) (rE ?_)
 try dsimp only [w0,w1,w2,w3]
 rcases ifc h with ⟨hc59,h⟩ | ⟨hc59,h⟩
 ·obtain ⟨p60,hp60,h⟩ := bindo h
  obtain ⟨hg61,h⟩ := gd h
  obtain ⟨p62,hp62,h⟩ := bindo h
  refine q_cond_t rfl (.tmp rfl) hc59 (qR rfl rfl (qS 87 rfl (oM · rfl) (qS 88 rfl (ok_indexAddr_arr · ta107 sz94 (.tmp rfl) hp60 (.tmp rfl) hg61) (qS 89 rfl (oL · sc94 rfl rfl (ldI_out hp62)) (qS 90 rfl (oC · rfl rfl) ?_)))))
  try dsimp only [w0,w1,w2,w3]
  obtain ⟨p63,hp63,h⟩ := bindo h
  obtain ⟨hg64,h⟩ := gd h
  obtain ⟨p65,hp65,h⟩ := bindo h
  refine qS 91 rfl (ok_indexAddr_arr · ta107 sz94 (.tmp rfl) hp63 (.tmp rfl) hg64) (qN rfl (ok_store_s (v := (.int .u16 (ior .u16 p62 64))) · sz94 (.tmp rfl) rfl (.tmp rfl) rfl hp65) (rE ?_))
  try dsimp only [w0,w1,w2,w3]
  refine hr_inBlock ?_
  try dsimp only [w0,w1,w2,w3]
  exact J15_snd hrec0 h
 ·refine q_cond_f rfl (.tmp rfl) (bfalse hc59) (q_skipc rfl (hr_inBlock ?_))
  try dsimp only [w0,w1,w2,w3]
  exact J15_snd hrec0 h
def J13 (k : Nat) (rec0 : (Option HA) → (Option HA) → Int → HS → Option (((List HV)) × HS)) (y0 : (Option HA)) (y1 : (Option HA)) (y2 : Int) (y5 : Int) (y78 : Bool) (S : HS) : Option (((List HV)) × HS) :=
 (if y78 = true then
 (Option.bind (y1) fun p52 =>
 (if 0 ≤ (y2 : Int) ∧ (y2 : Int) < 256 then
 (Option.bind (HS.ldI S .u16 (HA.fld p52 (Int.toNat y2))) fun p54 =>
 (Option.bind (y1) fun p55 =>
 (if 0 ≤ (y2 : Int) ∧ (y2 : Int) < 256 then
 (Option.bind (HS.sets S (HA.fld p55 (Int.toNat y2)) [(.int .u16 (ior .u16 p54 32))]) fun p57 =>
 J14 k rec0 y0 y1 y2 y5 p57) else none))) else none)) else
 J14 k rec0 y0 y1 y2 y5 S)
theorem J13_snd {k : Nat} {rec0 : (Option HA) → (Option HA) → Int → HS → Option (((List HV)) × HS)} (hrec0 : ∀ ⦃y0 : (Option HA)⦄ ⦃y1 : (Option HA)⦄ ⦃y5 : Int⦄ ⦃S : HS⦄ ⦃p : ((List HV)) × HS⦄ ⦃Gc Gd Ge Gg Gh Gi Gj Gk Gl Gm Gn Go Gp Gq Gr Gs Gt Gu Gv Gw Gx Gy Gz Ka Kb Kc Kd Ke Kf Kg Kh Ki Kj Kk Kl Km Kn Ko Kp Kq Kr Ks Kt Ku Kv Kw Kx Ky Kz Ma Mb Mc Md Me Mf Mg Mh Mi Mj Mk Ml Mm Mn Mo Mp Mq Mr Ms Mt Mu Mv Mw Mx My Mz Na Nb Nc Nd Ne Nf Ng Nh Ni Nj Nk Nl Nm Nn No Np : HV⦄,rec0 y0 y1 y5 S = some p → HRun Tryz.prog base W0 β0 72 none [.inLoop c9,.inBlock 0,.code c65] ⟨[(.ptr y0),(.ptr y1),Gc,Gd,Ge,(.int .i64 y5),Gg,Gh,Gi,Gj,Gk,Gl,Gm,Gn,Go,Gp,Gq,Gr,Gs,Gt,Gu,Gv,Gw,Gx,Gy,Gz,Ka,Kb,Kc,Kd,Ke,Kf,Kg,Kh,Ki,Kj,Kk,Kl,Km,Kn,Ko,Kp,Kq,Kr,Ks,Kt,Ku,Kv,Kw,Kx,Ky,Kz,Ma,Mb,Mc,Md,Me,Mf,Mg,Mh,Mi,Mj,Mk,Ml,Mm,Mn,Mo,Mp,Mq,Mr,Ms,Mt,Mu,Mv,Mw,Mx,My,Mz,Na,Nb,Nc,Nd,Ne,Nf,Ng,Nh,Ni,Nj,Nk,Nl,Nm,Nn,No,Np],[]⟩ S (fun v S1 => v = (.agg p.1) ∧ S1 = p.2)) {y0 : (Option HA)} {y1 : (Option HA)} {y2 : Int} {y5 : Int} {y78 : Bool} {S : HS} {p : ((List HV)) × HS} {Gd Ge Gg Gh Gi Gj Gk Gl Gm Gn Go Gp Gq Gr Gs Gt Gu Gv Gw Gx Gy Gz Ka Kb Kc Kd Ke Kf Kg Kh Ki Kj Kk Kl Km Kn Ko Kp Kq Kr Ks Kt Ku Kv Kw Kx Ky Kz Ma Mb Mc Md Me Mf Mg Mh Mi Mj Mk Ml Mm Mn Mo Mp Mq Mr Ms Mt Mu Mv Mw Mx My Mz Nb Nc Nd Ne Nf Ng Nh Ni Nj Nk Nl Nm Nn No Np : HV} (h : J13 k rec0 y0 y1 y2 y5 y78 S = some p) : HRun Tryz.prog base W0 β0 72 none [.code c56,.code c59,.inBlock 1,.code c64,.inLoop c9,.inBlock 0,.code c65] ⟨[(.ptr y0),(.ptr y1),(.int .i64 y2),Gd,Ge,(.int .i64 y5),Gg,Gh,Gi,Gj,Gk,Gl,Gm,Gn,Go,Gp,Gq,Gr,Gs,Gt,Gu,Gv,Gw,Gx,Gy,Gz,Ka,Kb,Kc,Kd,Ke,Kf,Kg,Kh,Ki,Kj,Kk,Kl,Km,Kn,Ko,Kp,Kq,Kr,Ks,Kt,Ku,Kv,Kw,Kx,Ky,Kz,Ma,Mb,Mc,Md,Me,Mf,Mg,Mh,Mi,Mj,Mk,Ml,Mm,Mn,Mo,Mp,Mq,Mr,Ms,Mt,Mu,Mv,Mw,Mx,My,Mz,(.bool y78),Nb,Nc,Nd,Ne,Nf,Ng,Nh,Ni,Nj,Nk,Nl,Nm,Nn,No,Np],[]⟩ S (fun v S1 => v = (.agg p.1) ∧ S1 = p.2) := by
 unfold J13 at h
 rcases ifc h with ⟨hc51,h⟩ | ⟨hc51,h⟩
 ·obtain ⟨p52,hp52,h⟩ := bindo h
  obtain ⟨hg53,h⟩ := gd h
  obtain ⟨p54,hp54,h⟩ := bindo h
  refine q_cond_t rfl (.tmp rfl) hc51 (qR rfl rfl (qS 79 rfl (oM · rfl) (qS 80 rfl (ok_indexAddr_arr · ta107 sz94 (.tmp rfl) hp52 (.tmp rfl) hg53) (qS 81 rfl (oL · sc94 rfl rfl (ldI_out hp54)) (qS 82 rfl (oC · rfl rfl) ?_)))))
  try dsimp only [w0,w1,w2,w3]
  obtain ⟨p55,hp55,h⟩ := bindo h
  obtain ⟨hg56,h⟩ := gd h
  obtain ⟨p57,hp57,h⟩ := bindo h
  refine qS 83 rfl (ok_indexAddr_arr · ta107 sz94 (.tmp rfl) hp55 (.tmp rfl) hg56) (qN rfl (ok_store_s (v := (.int .u16 (ior .u16 p54 32))) · sz94 (.tmp rfl) rfl (.tmp rfl) rfl hp57) (rE ?_))
  try dsimp only [w0,w1,w2,w3]
  try dsimp only [w0,w1,w2,w3]
  exact J14_snd hrec0 h
 ·refine q_cond_f rfl (.tmp rfl) (bfalse hc51) (q_skipc rfl ?_)
  try dsimp only [w0,w1,w2,w3]
  exact J14_snd hrec0 h
def J12 (k : Nat) (rec0 : (Option HA) → (Option HA) → Int → HS → Option (((List HV)) × HS)) (y0 : (Option HA)) (y1 : (Option HA)) (y2 : Int) (y4 : Bool) (y5 : Int) (S : HS) : Option (((List HV)) × HS) :=
 (if y4 = true then
 J13 k rec0 y0 y1 y2 y5 (!decide (y2 = 44)) S else
 J13 k rec0 y0 y1 y2 y5 false S)
theorem J12_snd {k : Nat} {rec0 : (Option HA) → (Option HA) → Int → HS → Option (((List HV)) × HS)} (hrec0 : ∀ ⦃y0 : (Option HA)⦄ ⦃y1 : (Option HA)⦄ ⦃y5 : Int⦄ ⦃S : HS⦄ ⦃p : ((List HV)) × HS⦄ ⦃Gc Gd Ge Gg Gh Gi Gj Gk Gl Gm Gn Go Gp Gq Gr Gs Gt Gu Gv Gw Gx Gy Gz Ka Kb Kc Kd Ke Kf Kg Kh Ki Kj Kk Kl Km Kn Ko Kp Kq Kr Ks Kt Ku Kv Kw Kx Ky Kz Ma Mb Mc Md Me Mf Mg Mh Mi Mj Mk Ml Mm Mn Mo Mp Mq Mr Ms Mt Mu Mv Mw Mx My Mz Na Nb Nc Nd Ne Nf Ng Nh Ni Nj Nk Nl Nm Nn No Np : HV⦄,rec0 y0 y1 y5 S = some p → HRun Tryz.prog base W0 β0 72 none [.inLoop c9,.inBlock 0,.code c65] ⟨[(.ptr y0),(.ptr y1),Gc,Gd,Ge,(.int .i64 y5),Gg,Gh,Gi,Gj,Gk,Gl,Gm,Gn,Go,Gp,Gq,Gr,Gs,Gt,Gu,Gv,Gw,Gx,Gy,Gz,Ka,Kb,Kc,Kd,Ke,Kf,Kg,Kh,Ki,Kj,Kk,Kl,Km,Kn,Ko,Kp,Kq,Kr,Ks,Kt,Ku,Kv,Kw,Kx,Ky,Kz,Ma,Mb,Mc,Md,Me,Mf,Mg,Mh,Mi,Mj,Mk,Ml,Mm,Mn,Mo,Mp,Mq,Mr,Ms,Mt,Mu,Mv,Mw,Mx,My,Mz,Na,Nb,Nc,Nd,Ne,Nf,Ng,Nh,Ni,Nj,Nk,Nl,Nm,Nn,No,Np],[]⟩ S (fun v S1 => v = (.agg p.1) ∧ S1 = p.2)) {y0 : (Option HA)} {y1 : (Option HA)} {y2 : Int} {y4 : Bool} {y5 : Int} {S : HS} {p : ((List HV)) × HS} {Gd Gg Gh Gi Gj Gk Gl Gm Gn Go Gp Gq Gr Gs Gt Gu Gv Gw Gx Gy Gz Ka Kb Kc Kd Ke Kf Kg Kh Ki Kj Kk Kl Km Kn Ko Kp Kq Kr Ks Kt Ku Kv Kw Kx Ky Kz Ma Mb Mc Md Me Mf Mg Mh Mi Mj Mk Ml Mm Mn Mo Mp Mq Mr Ms Mt Mu Mv Mw Mx My Mz Na Nb Nc Nd Ne Nf Ng Nh Ni Nj Nk Nl Nm Nn No Np : HV} (h : J12 k rec0 y0 y1 y2 y4 y5 S = some p) : HRun Tryz.prog base W0 β0 72 none [.code c53,.inBlock 1,.code c64,.inLoop c9,.inBlock 0,.code c65] ⟨[(.ptr y0),(.ptr y1),(.int .i64 y2),Gd,(.bool y4),(.int .i64 y5),Gg,Gh,Gi,Gj,Gk,Gl,Gm,Gn,Go,Gp,Gq,Gr,Gs,Gt,Gu,Gv,Gw,Gx,Gy,Gz,Ka,Kb,Kc,Kd,Ke,Kf,Kg,Kh,Ki,Kj,Kk,Kl,Km,Kn,Ko,Kp,Kq,Kr,Ks,Kt,Ku,Kv,Kw,Kx,Ky,Kz,Ma,Mb,Mc,Md,Me,Mf,Mg,Mh,Mi,Mj,Mk,Ml,Mm,Mn,Mo,Mp,Mq,Mr,Ms,Mt,Mu,Mv,Mw,Mx,My,Mz,Na,Nb,Nc,Nd,Ne,Nf,Ng,Nh,Ni,Nj,Nk,Nl,Nm,Nn,No,Np],[]⟩ S (fun v S1 => v = (.agg p.1) ∧ S1 = p.2) := by
 unfold J12 at h
 refine qQ rfl (qQ rfl (qR rfl rfl (qS 74 rfl (oM · rfl) (qS 75 rfl (oM · rfl) ?_))))
 rcases ifc h with ⟨hc50,h⟩ | ⟨hc50,h⟩
 ·refine qG 75 76 rfl hc50 (oM · rfl) (qG 75 77 rfl hc50 (oC · rfl rfl) ?_)
  try dsimp only [w0,w1,w2,w3]
  refine qS 78 rfl (ok_pick_tt · (.tmp rfl) hc50 (.tmp rfl)) (rE ?_)
  try dsimp only [w0,w1,w2,w3]
  try dsimp only [w0,w1,w2,w3]
  exact J13_snd hrec0 h
 ·refine q_skip (dst := some 76) (t := 75) rfl rfl rfl (bfalse hc50) (q_skip (dst := some 77) (t := 75) rfl rfl rfl (bfalse hc50) ?_)
  try dsimp only [w0,w1,w2,w3]
  refine qS 78 rfl (ok_pick_ff · (.tmp rfl) (bfalse hc50) (.bool _)) (rE ?_)
  try dsimp only [w0,w1,w2,w3]
  try dsimp only [w0,w1,w2,w3]
  exact J13_snd hrec0 h
def J11 (k : Nat) (rec0 : (Option HA) → (Option HA) → Int → HS → Option (((List HV)) × HS)) (y0 : (Option HA)) (y1 : (Option HA)) (y2 : Int) (y4 : Bool) (y5 : Int) (y68 : Bool) (S : HS) : Option (((List HV)) × HS) :=
 (if y68 = true then
 (Option.bind (y1) fun p44 =>
 (if 0 ≤ (y2 : Int) ∧ (y2 : Int) < 256 then
 (Option.bind (HS.ldI S .u16 (HA.fld p44 (Int.toNat y2))) fun p46 =>
 (Option.bind (y1) fun p47 =>
 (if 0 ≤ (y2 : Int) ∧ (y2 : Int) < 256 then
 (Option.bind (HS.sets S (HA.fld p47 (Int.toNat y2)) [(.int .u16 (ior .u16 p46 16))]) fun p49 =>
 J12 k rec0 y0 y1 y2 y4 y5 p49) else none))) else none)) else
 J12 k rec0 y0 y1 y2 y4 y5 S)
theorem J11_snd {k : Nat} {rec0 : (Option HA) → (Option HA) → Int → HS → Option (((List HV)) × HS)} (hrec0 : ∀ ⦃y0 : (Option HA)⦄ ⦃y1 : (Option HA)⦄ ⦃y5 : Int⦄ ⦃S : HS⦄ ⦃p : ((List HV)) × HS⦄ ⦃Gc Gd Ge Gg Gh Gi Gj Gk Gl Gm Gn Go Gp Gq Gr Gs Gt Gu Gv Gw Gx Gy Gz Ka Kb Kc Kd Ke Kf Kg Kh Ki Kj Kk Kl Km Kn Ko Kp Kq Kr Ks Kt Ku Kv Kw Kx Ky Kz Ma Mb Mc Md Me Mf Mg Mh Mi Mj Mk Ml Mm Mn Mo Mp Mq Mr Ms Mt Mu Mv Mw Mx My Mz Na Nb Nc Nd Ne Nf Ng Nh Ni Nj Nk Nl Nm Nn No Np : HV⦄,rec0 y0 y1 y5 S = some p → HRun Tryz.prog base W0 β0 72 none [.inLoop c9,.inBlock 0,.code c65] ⟨[(.ptr y0),(.ptr y1),Gc,Gd,Ge,(.int .i64 y5),Gg,Gh,Gi,Gj,Gk,Gl,Gm,Gn,Go,Gp,Gq,Gr,Gs,Gt,Gu,Gv,Gw,Gx,Gy,Gz,Ka,Kb,Kc,Kd,Ke,Kf,Kg,Kh,Ki,Kj,Kk,Kl,Km,Kn,Ko,Kp,Kq,Kr,Ks,Kt,Ku,Kv,Kw,Kx,Ky,Kz,Ma,Mb,Mc,Md,Me,Mf,Mg,Mh,Mi,Mj,Mk,Ml,Mm,Mn,Mo,Mp,Mq,Mr,Ms,Mt,Mu,Mv,Mw,Mx,My,Mz,Na,Nb,Nc,Nd,Ne,Nf,Ng,Nh,Ni,Nj,Nk,Nl,Nm,Nn,No,Np],[]⟩ S (fun v S1 => v = (.agg p.1) ∧ S1 = p.2)) {y0 : (Option HA)} {y1 : (Option HA)} {y2 : Int} {y4 : Bool} {y5 : Int} {y68 : Bool} {S : HS} {p : ((List HV)) × HS} {Gd Gg Gh Gi Gj Gk Gl Gm Gn Go Gp Gq Gr Gs Gt Gu Gv Gw Gx Gy Gz Ka Kb Kc Kd Ke Kf Kg Kh Ki Kj Kk Kl Km Kn Ko Kp Kq Kr Ks Kt Ku Kv Kw Kx Ky Kz Ma Mb Mc Md Me Mf Mg Mh Mi Mj Mk Ml Mm Mn Mo Mp Mr Ms Mt Mu Mv Mw Mx My Mz Na Nb Nc Nd Ne Nf Ng Nh Ni Nj Nk Nl Nm Nn No Np : HV} (h : J11 k rec0 y0 y1 y2 y4 y5 y68 S = some p) : HRun Tryz.prog base W0 β0 72 none [.code c50,.code c53,.inBlock 1,.code c64,.inLoop c9,.inBlock 0,.code c65] ⟨[(.ptr y0),(.ptr y1),(.int .i64 y2),Gd,(.bool y4),(.int .i64 y5),Gg,Gh,Gi,Gj,Gk,Gl,Gm,Gn,Go,Gp,Gq,Gr,Gs,Gt,Gu,Gv,Gw,Gx,Gy,Gz,Ka,Kb,Kc,Kd,Ke,Kf,Kg,Kh,Ki,Kj,Kk,Kl,Km,Kn,Ko,Kp,Kq,Kr,Ks,Kt,Ku,Kv,Kw,Kx,Ky,Kz,Ma,Mb,Mc,Md,Me,Mf,Mg,Mh,Mi,Mj,Mk,Ml,Mm,Mn,Mo,Mp,(.bool y68),Mr,Ms,Mt,Mu,Mv,Mw,Mx,My,Mz,Na,Nb,Nc,Nd,Ne,Nf,Ng,Nh,Ni,Nj,Nk,Nl,Nm,Nn,No,Np],[]⟩ S (fun v S1 => v = (.agg p.1) ∧ S1 = p.2) := by
 unfold J11 at h
 rcases ifc h with ⟨hc43,h⟩ | ⟨hc43,h⟩
 ·obtain ⟨p44,hp44,h⟩ := bindo h
  obtain ⟨hg45,h⟩ := gd h
  obtain ⟨p46,hp46,h⟩ := bindo h
  refine q_cond_t rfl (.tmp rfl) hc43 (qR rfl rfl (qS 69 rfl (oM · rfl) (qS 70 rfl (ok_indexAddr_arr · ta107 sz94 (.tmp rfl) hp44 (.tmp rfl) hg45) (qS 71 rfl (oL · sc94 rfl rfl (ldI_out hp46)) (qS 72 rfl (oC · rfl rfl) ?_)))))
  try dsimp only [w0,w1,w2,w3]
  obtain ⟨p47,hp47,h⟩ := bindo h
  obtain ⟨hg48,h⟩ := gd h
  obtain ⟨p49,hp49,h⟩ := bindo h
  refine qS 73 rfl (ok_indexAddr_arr · ta107 sz94 (.tmp rfl) hp47 (.tmp rfl) hg48) (qN rfl (ok_store_s (v := (.int .u16 (ior .u16 p46 16))) · sz94 (.tmp rfl) rfl (.tmp rfl) rfl hp49) (rE ?_))
  try dsimp only [w0,w1,w2,w3]
  try dsimp only [w0,w1,w2,w3]
  exact J12_snd hrec0 h
 ·refine q_cond_f rfl (.tmp rfl) (bfalse hc43) (q_skipc rfl ?_)
  try dsimp only [w0,w1,w2,w3]
  exact J12_snd hrec0 h
def J10 (k : Nat) (rec0 : (Option HA) → (Option HA) → Int → HS → Option (((List HV)) × HS)) (y0 : (Option HA)) (y1 : (Option HA)) (y2 : Int) (y4 : Bool) (y5 : Int) (y64 : Bool) (S : HS) : Option (((List HV)) × HS) :=
 (if y64 = true then
 J11 k rec0 y0 y1 y2 y4 y5 true S else
 (Option.bind (valid_has.f ([46,45,58] : List UInt8) y2) fun p66 =>
 J11 k rec0 y0 y1 y2 y4 y5 p66 S))
theorem J10_snd {k : Nat} {rec0 : (Option HA) → (Option HA) → Int → HS → Option (((List HV)) × HS)} (hrec0 : ∀ ⦃y0 : (Option HA)⦄ ⦃y1 : (Option HA)⦄ ⦃y5 : Int⦄ ⦃S : HS⦄ ⦃p : ((List HV)) × HS⦄ ⦃Gc Gd Ge Gg Gh Gi Gj Gk Gl Gm Gn Go Gp Gq Gr Gs Gt Gu Gv Gw Gx Gy Gz Ka Kb Kc Kd Ke Kf Kg Kh Ki Kj Kk Kl Km Kn Ko Kp Kq Kr Ks Kt Ku Kv Kw Kx Ky Kz Ma Mb Mc Md Me Mf Mg Mh Mi Mj Mk Ml Mm Mn Mo Mp Mq Mr Ms Mt Mu Mv Mw Mx My Mz Na Nb Nc Nd Ne Nf Ng Nh Ni Nj Nk Nl Nm Nn No Np : HV⦄,rec0 y0 y1 y5 S = some p → HRun Tryz.prog base W0 β0 72 none [.inLoop c9,.inBlock 0,.code c65] ⟨[(.ptr y0),(.ptr y1),Gc,Gd,Ge,(.int .i64 y5),Gg,Gh,Gi,Gj,Gk,Gl,Gm,Gn,Go,Gp,Gq,Gr,Gs,Gt,Gu,Gv,Gw,Gx,Gy,Gz,Ka,Kb,Kc,Kd,Ke,Kf,Kg,Kh,Ki,Kj,Kk,Kl,Km,Kn,Ko,Kp,Kq,Kr,Ks,Kt,Ku,Kv,Kw,Kx,Ky,Kz,Ma,Mb,Mc,Md,Me,Mf,Mg,Mh,Mi,Mj,Mk,Ml,Mm,Mn,Mo,Mp,Mq,Mr,Ms,Mt,Mu,Mv,Mw,Mx,My,Mz,Na,Nb,Nc,Nd,Ne,Nf,Ng,Nh,Ni,Nj,Nk,Nl,Nm,Nn,No,Np],[]⟩ S (fun v S1 => v = (.agg p.1) ∧ S1 = p.2)) {y0 : (Option HA)} {y1 : (Option HA)} {y2 : Int} {y4 : Bool} {y5 : Int} {y64 : Bool} {S : HS} {p : ((List HV)) × HS} {Gd Gg Gh Gi Gj Gk Gl Gm Gn Go Gp Gq Gr Gs Gt Gu Gv Gw Gx Gy Gz Ka Kb Kc Kd Ke Kf Kg Kh Ki Kj Kk Kl Km Kn Ko Kp Kq Kr Ks Kt Ku Kv Kw Kx Ky Kz Ma Mb Mc Md Me Mf Mg Mh Mi Mj Mk Ml Mn Mo Mp Mq Mr Ms Mt Mu Mv Mw Mx My Mz Na Nb Nc Nd Ne Nf Ng Nh Ni Nj Nk Nl Nm Nn No Np : HV} (h : J10 k rec0 y0 y1 y2 y4 y5 y64 S = some p) : HRun Tryz.prog base W0 β0 72 none [.inRegion r49 [5,6,7,8],.code c50,.code c53,.inBlock 1,.code c64,.inLoop c9,.inBlock 0,.code c65] ⟨[(.ptr y0),(.ptr y1),(.int .i64 y2),Gd,(.bool y4),(.int .i64 y5),Gg,Gh,Gi,Gj,Gk,Gl,Gm,Gn,Go,Gp,Gq,Gr,Gs,Gt,Gu,Gv,Gw,Gx,Gy,Gz,Ka,Kb,Kc,Kd,Ke,Kf,Kg,Kh,Ki,Kj,Kk,Kl,Km,Kn,Ko,Kp,Kq,Kr,Ks,Kt,Ku,Kv,Kw,Kx,Ky,Kz,Ma,Mb,Mc,Md,Me,Mf,Mg,Mh,Mi,Mj,Mk,Ml,(.bool y64),Mn,Mo,Mp,Mq,Mr,Ms,Mt,Mu,Mv,Mw,Mx,My,Mz,Na,Nb,Nc,Nd,Ne,Nf,Ng,Nh,Ni,Nj,Nk,Nl,Nm,Nn,No,Np],[]⟩ S (fun v S1 => v = (.agg p.1) ∧ S1 = p.2) := by
 unfold J10 at h
 refine qS 65 rfl (oM · rfl) ?_
 rcases ifc h with ⟨hc42,h⟩ | ⟨hc42,h⟩
 ·refine q_skip (dst := some 66) (t := 65) rfl rfl rfl hc42 (q_skip (dst := some 67) (t := 65) rfl rfl rfl hc42 ?_)
  try dsimp only [w0,w1,w2,w3]
  refine qS 68 rfl (ok_pick_tt · (.tmp rfl) hc42 (.bool _)) (rE ?_)
  try dsimp only [w0,w1,w2,w3]
  try dsimp only [w0,w1,w2,w3]
  exact J11_snd hrec0 h
 ·obtain ⟨p66,hp66,h⟩ := bindo h
  refine qG 65 66 rfl (bfalse hc42) (oM · rfl) (q_call_g (t := 65) (dst := some 67) rfl rfl rfl (bfalse hc42) (.func _) (.cons (.str _) (.cons (.tmp rfl) Evs.nil)) (HInv.static valid_has.at_ valid_has.body (valid_has.snd  hp66)) ?_)
  rintro _ _ ⟨rfl,rfl⟩
  try dsimp only [w0,w1,w2,w3]
  refine qS 68 rfl (ok_pick_ff · (.tmp rfl) (bfalse hc42) (.tmp rfl)) (rE ?_)
  try dsimp only [w0,w1,w2,w3]
  try dsimp only [w0,w1,w2,w3]
  exact J11_snd hrec0 h
def J9 (k : Nat) (rec0 : (Option HA) → (Option HA) → Int → HS → Option (((List HV)) × HS)) (y0 : (Option HA)) (y1 : (Option HA)) (y2 : Int) (y3 : Bool) (y4 : Bool) (y5 : Int) (S : HS) : Option (((List HV)) × HS) :=
 (Option.bind (valid_letter.f y2) fun p40 =>
 (if p40 = true then
 J10 k rec0 y0 y1 y2 y4 y5 true S else
 J10 k rec0 y0 y1 y2 y4 y5 y3 S))
theorem J9_snd {k : Nat} {rec0 : (Option HA) → (Option HA) → Int → HS → Option (((List HV)) × HS)} (hrec0 : ∀ ⦃y0 : (Option HA)⦄ ⦃y1 : (Option HA)⦄ ⦃y5 : Int⦄ ⦃S : HS⦄ ⦃p : ((List HV)) × HS⦄ ⦃Gc Gd Ge Gg Gh Gi Gj Gk Gl Gm Gn Go Gp Gq Gr Gs Gt Gu Gv Gw Gx Gy Gz Ka Kb Kc Kd Ke Kf Kg Kh Ki Kj Kk Kl Km Kn Ko Kp Kq Kr Ks Kt Ku Kv Kw Kx Ky Kz Ma Mb Mc Md Me Mf Mg Mh Mi Mj Mk Ml Mm Mn Mo Mp Mq Mr Ms Mt Mu Mv Mw Mx My Mz Na Nb Nc Nd Ne Nf Ng Nh Ni Nj Nk Nl Nm Nn No Np : HV⦄,rec0 y0 y1 y5 S = some p → HRun Tryz.prog base W0 β0 72 none [.inLoop c9,.inBlock 0,.code c65] ⟨[(.ptr y0),(.ptr y1),Gc,Gd,Ge,(.int .i64 y5),Gg,Gh,Gi,Gj,Gk,Gl,Gm,Gn,Go,Gp,Gq,Gr,Gs,Gt,Gu,Gv,Gw,Gx,Gy,Gz,Ka,Kb,Kc,Kd,Ke,Kf,Kg,Kh,Ki,Kj,Kk,Kl,Km,Kn,Ko,Kp,Kq,Kr,Ks,Kt,Ku,Kv,Kw,Kx,Ky,Kz,Ma,Mb,Mc,Md,Me,Mf,Mg,Mh,Mi,Mj,Mk,Ml,Mm,Mn,Mo,Mp,Mq,Mr,Ms,Mt,Mu,Mv,Mw,Mx,My,Mz,Na,Nb,Nc,Nd,Ne,Nf,Ng,Nh,Ni,Nj,Nk,Nl,Nm,Nn,No,Np],[]⟩ S (fun v S1 => v = (.agg p.1) ∧ S1 = p.2)) {y0 : (Option HA)} {y1 : (Option HA)} {y2 : Int} {y3 : Bool} {y4 : Bool} {y5 : Int} {S : HS} {p : ((List HV)) × HS} {Gg Gh Gi Gj Gk Gl Gm Gn Go Gp Gq Gr Gs Gt Gu Gv Gw Gx Gy Gz Ka Kb Kc Kd Ke Kf Kg Kh Ki Kj Kk Kl Km Kn Ko Kp Kq Kr Ks Kt Ku Kv Kw Kx Ky Kz Ma Mb Mc Md Me Mf Mg Mh Mi Mj Mk Ml Mm Mn Mo Mp Mq Mr Ms Mt Mu Mv Mw Mx My Mz Na Nb Nc Nd Ne Nf Ng Nh Ni Nj Nk Nl Nm Nn No Np : HV} (h : J9 k rec0 y0 y1 y2 y3 y4 y5 S = some p) : HRun Tryz.prog base W0 β0 72 none [.code c47,.inBlock 1,.code c64,.inLoop c9,.inBlock 0,.code c65] ⟨[(.ptr y0),(.ptr y1),(.int .i64 y2),(.bool y3),(.bool y4),(.int .i64 y5),Gg,Gh,Gi,Gj,Gk,Gl,Gm,Gn,Go,Gp,Gq,Gr,Gs,Gt,Gu,Gv,Gw,Gx,Gy,Gz,Ka,Kb,Kc,Kd,Ke,Kf,Kg,Kh,Ki,Kj,Kk,Kl,Km,Kn,Ko,Kp,Kq,Kr,Ks,Kt,Ku,Kv,Kw,Kx,Ky,Kz,Ma,Mb,Mc,Md,Me,Mf,Mg,Mh,Mi,Mj,Mk,Ml,Mm,Mn,Mo,Mp,Mq,Mr,Ms,Mt,Mu,Mv,Mw,Mx,My,Mz,Na,Nb,Nc,Nd,Ne,Nf,Ng,Nh,Ni,Nj,Nk,Nl,Nm,Nn,No,Np],[]⟩ S (fun v S1 => v = (.agg p.1) ∧ S1 = p.2) := by
 unfold J9 at h
 obtain ⟨p40,hp40,h⟩ := bindo h
 refine qQ rfl (qQ rfl (qR rfl rfl (qS 60 rfl (oM · rfl) (q_call (dst := some 61) rfl (.func _) (.cons (.tmp rfl) Evs.nil) (HInv.static valid_letter.at_ valid_letter.body (valid_letter.snd  hp40)) ?_))))
 rintro _ _ ⟨rfl,rfl⟩
 refine qS 62 rfl (oM · rfl) ?_
 rcases ifc h with ⟨hc41,h⟩ | ⟨hc41,h⟩
 ·refine q_skip (dst := some 63) (t := 62) rfl rfl rfl hc41 ?_
  try dsimp only [w0,w1,w2,w3]
  refine qS 64 rfl (ok_pick_tt · (.tmp rfl) hc41 (.bool _)) ?_
  try dsimp only [w0,w1,w2,w3]
  exact J10_snd hrec0 h
 ·refine qG 62 63 rfl (bfalse hc41) (oM · rfl) ?_
  try dsimp only [w0,w1,w2,w3]
  refine qS 64 rfl (ok_pick_ff · (.tmp rfl) (bfalse hc41) (.tmp rfl)) ?_
  try dsimp only [w0,w1,w2,w3]
  exact J10_snd hrec0 h
def J8 (k : Nat) (rec0 : (Option HA) → (Option HA) → Int → HS → Option (((List HV)) × HS)) (y0 : (Option HA)) (y1 : (Option HA)) (y2 : Int) (y3 : Bool) (y4 : Bool) (y5 : Int) (y54 : Bool) (S : HS) : Option (((List HV)) × HS) :=
 (if y54 = true then
 (Option.bind (y1) fun p34 =>
 (if 0 ≤ (y2 : Int) ∧ (y2 : Int) < 256 then
 (Option.bind (HS.ldI S .u16 (HA.fld p34 (Int.toNat y2))) fun p36 =>
 (Option.bind (y1) fun p37 =>
 (if 0 ≤ (y2 : Int) ∧ (y2 : Int) < 256 then
 (Option.bind (HS.sets S (HA.fld p37 (Int.toNat y2)) [(.int .u16 (ior .u16 p36 8))]) fun p39 =>
 J9 k rec0 y0 y1 y2 y3 y4 y5 p39) else none))) else none)) else
 J9 k rec0 y0 y1 y2 y3 y4 y5 S)
theorem J8_snd {k : Nat} {rec0 : (Option HA) → (Option HA) → Int → HS → Option (((List HV)) × HS)} (hrec0 : ∀ ⦃y0 : (Option HA)⦄ ⦃y1 : (Option HA)⦄ ⦃y5 : Int⦄ ⦃S : HS⦄ ⦃p : ((List HV)) × HS⦄ ⦃Gc Gd Ge Gg Gh Gi Gj Gk Gl Gm Gn Go Gp Gq Gr Gs Gt Gu Gv Gw Gx Gy Gz Ka Kb Kc Kd Ke Kf Kg Kh Ki Kj Kk Kl Km Kn Ko Kp Kq Kr Ks Kt Ku Kv Kw Kx Ky Kz Ma Mb Mc Md Me Mf Mg Mh Mi Mj Mk Ml Mm Mn Mo Mp Mq Mr Ms Mt Mu Mv Mw Mx My Mz Na Nb Nc Nd Ne Nf Ng Nh Ni Nj Nk Nl Nm Nn No Np : HV⦄,rec0 y0 y1 y5 S = some p → HRun Tryz.prog base W0 β0 72 none [.inLoop c9,.inBlock 0,.code c65] ⟨[(.ptr y0),(.ptr y1),Gc,Gd,Ge,(.int .i64 y5),Gg,Gh,Gi,Gj,Gk,Gl,Gm,Gn,Go,Gp,Gq,Gr,Gs,Gt,Gu,Gv,Gw,Gx,Gy,Gz,Ka,Kb,Kc,Kd,Ke,Kf,Kg,Kh,Ki,Kj,Kk,Kl,Km,Kn,Ko,Kp,Kq,Kr,Ks,Kt,Ku,Kv,Kw,Kx,Ky,Kz,Ma,Mb,Mc,Md,Me,Mf,Mg,Mh,Mi,Mj,Mk,Ml,Mm,Mn,Mo,Mp,Mq,Mr,Ms,Mt,Mu,Mv,Mw,Mx,My,Mz,Na,Nb,Nc,Nd,Ne,Nf,Ng,Nh,Ni,Nj,Nk,Nl,Nm,Nn,No,Np],[]⟩ S (fun v S1 => v = (.agg p.1) ∧ S1 = p.2)) {y0 : (Option HA)} {y1 : (Option HA)} {y2 : Int} {y3 : Bool} {y4 : Bool} {y5 : Int} {y54 : Bool} {S : HS} {p : ((List HV)) × HS} {Gg Gh Gi Gj Gk Gl Gm Gn Go Gp Gq Gr Gs Gt Gu Gv Gw Gx Gy Gz Ka Kb Kc Kd Ke Kf Kg Kh Ki Kj Kk Kl Km Kn Ko Kp Kq Kr Ks Kt Ku Kv Kw Kx Ky Kz Ma Mb Md Me Mf Mg Mh Mi Mj Mk Ml Mm Mn Mo Mp Mq Mr Ms Mt Mu Mv Mw Mx My Mz Na Nb Nc Nd Ne Nf Ng Nh Ni Nj Nk Nl Nm Nn No Np : HV} (h : J8 k rec0 y0 y1 y2 y3 y4 y5 y54 S = some p) : HRun Tryz.prog base W0 β0 72 none [.code c44,.code c47,.inBlock 1,.code c64,.inLoop c9,.inBlock 0,.code c65] ⟨[(.ptr y0),(.ptr y1),(.int .i64 y2),(.bool y3),(.bool y4),(.int .i64 y5),Gg,Gh,Gi,Gj,Gk,Gl,Gm,Gn,Go,Gp,Gq,Gr,Gs,Gt,Gu,Gv,Gw,Gx,Gy,Gz,Ka,Kb,Kc,Kd,Ke,Kf,Kg,Kh,Ki,Kj,Kk,Kl,Km,Kn,Ko,Kp,Kq,Kr,Ks,Kt,Ku,Kv,Kw,Kx,Ky,Kz,Ma,Mb,(.bool y54),Md,Me,Mf,Mg,Mh,Mi,Mj,Mk,Ml,Mm,Mn,Mo,Mp,Mq,Mr,Ms,Mt,Mu,Mv,Mw,Mx,My,Mz,Na,Nb,Nc,Nd,Ne,Nf,Ng,Nh,Ni,Nj,Nk,Nl,Nm,Nn,No,Np],[]⟩ S (fun v S1 => v = (.agg p.1) ∧ S1 = p.2) := by
 unfold J8 at h
 rcases ifc h with ⟨hc33,h⟩ | ⟨hc33,h⟩
 ·obtain ⟨p34,hp34,h⟩ := bindo h
  obtain ⟨hg35,h⟩ := gd h
  obtain ⟨p36,hp36,h⟩ := bindo h
  refine q_cond_t rfl (.tmp rfl) hc33 (qR rfl rfl (qS 55 rfl (oM · rfl) (qS 56 rfl (ok_indexAddr_arr · ta107 sz94 (.tmp rfl) hp34 (.tmp rfl) hg35) (qS 57 rfl (oL · sc94 rfl rfl (ldI_out hp36)) (qS 58 rfl (oC · rfl rfl) ?_)))))
  try dsimp only [w0,w1,w2,w3]
  obtain ⟨p37,hp37,h⟩ := bindo h
  obtain ⟨hg38,h⟩ := gd h
  obtain ⟨p39,hp39,h⟩ := bindo h
  refine qS 59 rfl (ok_indexAddr_arr · ta107 sz94 (.tmp rfl) hp37 (.tmp rfl) hg38) (qN rfl (ok_store_s (v := (.int .u16 (ior .u16 p36 8))) · sz94 (.tmp rfl) rfl (.tmp rfl) rfl hp39) (rE ?_))
  try dsimp only [w0,w1,w2,w3]
  try dsimp only [w0,w1,w2,w3]
  exact J9_snd hrec0 h
 ·refine q_cond_f rfl (.tmp rfl) (bfalse hc33) (q_skipc rfl ?_)
  try dsimp only [w0,w1,w2,w3]
  exact J9_snd hrec0 h
def J7 (k : Nat) (rec0 : (Option HA) → (Option HA) → Int → HS → Option (((List HV)) × HS)) (y0 : (Option HA)) (y1 : (Option HA)) (y2 : Int) (y3 : Bool) (y4 : Bool) (y5 : Int) (S : HS) : Option (((List HV)) × HS) :=
 (if y4 = true then
 (Option.bind (valid_has.f ([33,64,42,63,58] : List UInt8) y2) fun p32 =>
 J8 k rec0 y0 y1 y2 y3 y4 y5 (!p32) S) else
 J8 k rec0 y0 y1 y2 y3 y4 y5 false S)
theorem J7_snd {k : Nat} {rec0 : (Option HA) → (Option HA) → Int → HS → Option (((List HV)) × HS)} (hrec0 : ∀ ⦃y0 : (Option HA)⦄ ⦃y1 : (Option HA)⦄ ⦃y5 : Int⦄ ⦃S : HS⦄ ⦃p : ((List HV)) × HS⦄ ⦃Gc Gd Ge Gg Gh Gi Gj Gk Gl Gm Gn Go Gp Gq Gr Gs Gt Gu Gv Gw Gx Gy Gz Ka Kb Kc Kd Ke Kf Kg Kh Ki Kj Kk Kl Km Kn Ko Kp Kq Kr Ks Kt Ku Kv Kw Kx Ky Kz Ma Mb Mc Md Me Mf Mg Mh Mi Mj Mk Ml Mm Mn Mo Mp Mq Mr Ms Mt Mu Mv Mw Mx My Mz Na Nb Nc Nd Ne Nf Ng Nh Ni Nj Nk Nl Nm Nn No Np : HV⦄,rec0 y0 y1 y5 S = some p → HRun Tryz.prog base W0 β0 72 none [.inLoop c9,.inBlock 0,.code c65] ⟨[(.ptr y0),(.ptr y1),Gc,Gd,Ge,(.int .i64 y5),Gg,Gh,Gi,Gj,Gk,Gl,Gm,Gn,Go,Gp,Gq,Gr,Gs,Gt,Gu,Gv,Gw,Gx,Gy,Gz,Ka,Kb,Kc,Kd,Ke,Kf,Kg,Kh,Ki,Kj,Kk,Kl,Km,Kn,Ko,Kp,Kq,Kr,Ks,Kt,Ku,Kv,Kw,Kx,Ky,Kz,Ma,Mb,Mc,Md,Me,Mf,Mg,Mh,Mi,Mj,Mk,Ml,Mm,Mn,Mo,Mp,Mq,Mr,Ms,Mt,Mu,Mv,Mw,Mx,My,Mz,Na,Nb,Nc,Nd,Ne,Nf,Ng,Nh,Ni,Nj,Nk,Nl,Nm,Nn,No,Np],[]⟩ S (fun v S1 => v = (.agg p.1) ∧ S1 = p.2)) {y0 : (Option HA)} {y1 : (Option HA)} {y2 : Int} {y3 : Bool} {y4 : Bool} {y5 : Int} {S : HS} {p : ((List HV)) × HS} {Gg Gh Gi Gj Gk Gl Gm Gn Go Gp Gq Gr Gs Gt Gu Gv Gw Gx Gy Gz Ka Kb Kc Kd Ke Kf Kg Kh Ki Kj Kk Kl Km Kn Ko Kp Kq Kr Ks Kt Ku Kv Kw Kx Ky Kz Ma Mb Mc Md Me Mf Mg Mh Mi Mj Mk Ml Mm Mn Mo Mp Mq Mr Ms Mt Mu Mv Mw Mx My Mz Na Nb Nc Nd Ne Nf Ng Nh Ni Nj Nk Nl Nm Nn No Np : HV} (h : J7 k rec0 y0 y1 y2 y3 y4 y5 S = some p) : HRun Tryz.prog base W0 β0 72 none [.code c41,.inBlock 1,.code c64,.inLoop c9,.inBlock 0,.code c65] ⟨[(.ptr y0),(.ptr y1),(.int .i64 y2),(.bool y3),(.bool y4),(.int .i64 y5),Gg,Gh,Gi,Gj,Gk,Gl,Gm,Gn,Go,Gp,Gq,Gr,Gs,Gt,Gu,Gv,Gw,Gx,Gy,Gz,Ka,Kb,Kc,Kd,Ke,Kf,Kg,Kh,Ki,Kj,Kk,Kl,Km,Kn,Ko,Kp,Kq,Kr,Ks,Kt,Ku,Kv,Kw,Kx,Ky,Kz,Ma,Mb,Mc,Md,Me,Mf,Mg,Mh,Mi,Mj,Mk,Ml,Mm,Mn,Mo,Mp,Mq,Mr,Ms,Mt,Mu,Mv,Mw,Mx,My,Mz,Na,Nb,Nc,Nd,Ne,Nf,Ng,Nh,Ni,Nj,Nk,Nl,Nm,Nn,No,Np],[]⟩ S (fun v S1 => v = (.agg p.1) ∧ S1 = p.2) := by
 unfold J7 at h
 refine qQ rfl (qQ rfl (qR rfl rfl (qS 49 rfl (oM · rfl) (qS 50 rfl (oM · rfl) ?_))))
 rcases ifc h with ⟨hc31,h⟩ | ⟨hc31,h⟩
 ·obtain ⟨p32,hp32,h⟩ := bindo h
  refine qG 50 51 rfl hc31 (oM · rfl) (q_call_g (t := 50) (dst := some 52) rfl rfl rfl hc31 (.func _) (.cons (.str _) (.cons (.tmp rfl) Evs.nil)) (HInv.static valid_has.at_ valid_has.body (valid_has.snd  hp32)) ?_)
  rintro _ _ ⟨rfl,rfl⟩
  try dsimp only [w0,w1,w2,w3]
  refine qG 50 53 rfl hc31 (ok_not · (.tmp rfl)) (qS 54 rfl (ok_pick_tt · (.tmp rfl) hc31 (.tmp rfl)) (rE ?_))
  try dsimp only [w0,w1,w2,w3]
  try dsimp only [w0,w1,w2,w3]
  exact J8_snd hrec0 h
 ·refine q_skip (dst := some 51) (t := 50) rfl rfl rfl (bfalse hc31) (q_skip (dst := some 52) (t := 50) rfl rfl rfl (bfalse hc31) ?_)
  try dsimp only [w0,w1,w2,w3]
  refine q_skip (dst := some 53) (t := 50) rfl rfl rfl (bfalse hc31) (qS 54 rfl (ok_pick_ff · (.tmp rfl) (bfalse hc31) (.bool _)) (rE ?_))
  try dsimp only [w0,w1,w2,w3]
  try dsimp only [w0,w1,w2,w3]
  exact J8_snd hrec0 h
def J6 (k : Nat) (rec0 : (Option HA) → (Option HA) → Int → HS → Option (((List HV)) × HS)) (y0 : (Option HA)) (y1 : (Option HA)) (y2 : Int) (y3 : Bool) (y4 : Bool) (y5 : Int) (S : HS) : Option (((List HV)) × HS) :=
 (Option.bind (valid_has.f ([0,7,10,13,32,44,58] : List UInt8) y2) fun p23 =>
 (if (!p23) = true then
 (Option.bind (y1) fun p25 =>
 (if 0 ≤ (y2 : Int) ∧ (y2 : Int) < 256 then
 (Option.bind (HS.ldI S .u16 (HA.fld p25 (Int.toNat y2))) fun p27 =>
 (Option.bind (y1) fun p28 =>
 (if 0 ≤ (y2 : Int) ∧ (y2 : Int) < 256 then
 (Option.bind (HS.sets S (HA.fld p28 (Int.toNat y2)) [(.int .u16 (ior .u16 p27 4))]) fun p30 =>
 J7 k rec0 y0 y1 y2 y3 y4 y5 p30) else none))) else none)) else
 J7 k rec0 y0 y1 y2 y3 y4 y5 S))
theorem J6_snd {k : Nat} {rec0 : (Option HA) → (Option HA) → Int → HS → Option (((List HV)) × HS)} (hrec0 : ∀ ⦃y0 : (Option HA)⦄ ⦃y1 : (Option HA)⦄ ⦃y5 : Int⦄ ⦃S : HS⦄ ⦃p : ((List HV)) × HS⦄ ⦃Gc Gd Ge Gg Gh Gi Gj Gk Gl Gm Gn Go Gp Gq Gr Gs Gt Gu Gv Gw Gx Gy Gz Ka Kb Kc Kd Ke Kf Kg Kh Ki Kj Kk Kl Km Kn Ko Kp Kq Kr Ks Kt Ku Kv Kw Kx Ky Kz Ma Mb Mc Md Me Mf Mg Mh Mi Mj Mk Ml Mm Mn Mo Mp Mq Mr Ms Mt Mu Mv Mw Mx My Mz Na Nb Nc Nd Ne Nf Ng Nh Ni Nj Nk Nl Nm Nn No Np : HV⦄,rec0 y0 y1 y5 S = some p → HRun Tryz.prog base W0 β0 72 none [.inLoop c9,.inBlock 0,.code c65] ⟨[(.ptr y0),(.ptr y1),Gc,Gd,Ge,(.int .i64 y5),Gg,Gh,Gi,Gj,Gk,Gl,Gm,Gn,Go,Gp,Gq,Gr,Gs,Gt,Gu,Gv,Gw,Gx,Gy,Gz,Ka,Kb,Kc,Kd,Ke,Kf,Kg,Kh,Ki,Kj,Kk,Kl,Km,Kn,Ko,Kp,Kq,Kr,Ks,Kt,Ku,Kv,Kw,Kx,Ky,Kz,Ma,Mb,Mc,Md,Me,Mf,Mg,Mh,Mi,Mj,Mk,Ml,Mm,Mn,Mo,Mp,Mq,Mr,Ms,Mt,Mu,Mv,Mw,Mx,My,Mz,Na,Nb,Nc,Nd,Ne,Nf,Ng,Nh,Ni,Nj,Nk,Nl,Nm,Nn,No,Np],[]⟩ S (fun v S1 => v = (.agg p.1) ∧ S1 = p.2)) {y0 : (Option HA)} {y1 : (Option HA)} {y2 : Int} {y3 : Bool} {y4 : Bool} {y5 : Int} {S : HS} {p : ((List HV)) × HS} {Gg Gh Gi Gj Gk Gl Gm Gn Go Gp Gq Gr Gs Gt Gu Gv Gw Gx Gy Gz Ka Kb Kc Kd Ke Kf Kg Kh Ki Kj Kk Kl Km Kn Ko Kp Kq Kr Ks Kt Ku Kv Kw Kx Ky Kz Ma Mb Mc Md Me Mf Mg Mh Mi Mj Mk Ml Mm Mn Mo Mp Mq Mr Ms Mt Mu Mv Mw Mx My Mz Na Nb Nc Nd Ne Nf Ng Nh Ni Nj Nk Nl Nm Nn No Np : HV} (h : J6 k rec0 y0 y1 y2 y3 y4 y5 S = some p) : HRun Tryz.prog base W0 β0 72 none [.code c35,.inBlock 1,.code c64,.inLoop c9,.inBlock 0,.code c65] ⟨[(.ptr y0),(.ptr y1),(.int .i64 y2),(.bool y3),(.bool y4),(.int .i64 y5),Gg,Gh,Gi,Gj,Gk,Gl,Gm,Gn,Go,Gp,Gq,Gr,Gs,Gt,Gu,Gv,Gw,Gx,Gy,Gz,Ka,Kb,Kc,Kd,Ke,Kf,Kg,Kh,Ki,Kj,Kk,Kl,Km,Kn,Ko,Kp,Kq,Kr,Ks,Kt,Ku,Kv,Kw,Kx,Ky,Kz,Ma,Mb,Mc,Md,Me,Mf,Mg,Mh,Mi,Mj,Mk,Ml,Mm,Mn,Mo,Mp,Mq,Mr,Ms,Mt,Mu,Mv,Mw,Mx,My,Mz,Na,Nb,Nc,Nd,Ne,Nf,Ng,Nh,Ni,Nj,Nk,Nl,Nm,Nn,No,Np],[]⟩ S (fun v S1 => v = (.agg p.1) ∧ S1 = p.2) := by
 unfold J6 at h
 obtain ⟨p23,hp23,h⟩ := bindo h
 refine qQ rfl (qQ rfl (qR rfl rfl (qS 41 rfl (oM · rfl) (q_call (dst := some 42) rfl (.func _) (.cons (.str _) (.cons (.tmp rfl) Evs.nil)) (HInv.static valid_has.at_ valid_has.body (valid_has.snd  hp23)) ?_))))
 rintro _ _ ⟨rfl,rfl⟩
 refine qS 43 rfl (ok_not · (.tmp rfl)) (rE ?_)
 try dsimp only [w0,w1,w2,w3]
 rcases ifc h with ⟨hc24,h⟩ | ⟨hc24,h⟩
 ·obtain ⟨p25,hp25,h⟩ := bindo h
  obtain ⟨hg26,h⟩ := gd h
  obtain ⟨p27,hp27,h⟩ := bindo h
  refine q_cond_t rfl (.tmp rfl) hc24 (qR rfl rfl (qS 44 rfl (oM · rfl) (qS 45 rfl (ok_indexAddr_arr · ta107 sz94 (.tmp rfl) hp25 (.tmp rfl) hg26) (qS 46 rfl (oL · sc94 rfl rfl (ldI_out hp27)) (qS 47 rfl (oC · rfl rfl) ?_)))))
  try dsimp only [w0,w1,w2,w3]
  obtain ⟨p28,hp28,h⟩ := bindo h
  obtain ⟨hg29,h⟩ := gd h
  obtain ⟨p30,hp30,h⟩ := bindo h
  refine qS 48 rfl (ok_indexAddr_arr · ta107 sz94 (.tmp rfl) hp28 (.tmp rfl) hg29) (qN rfl (ok_store_s (v := (.int .u16 (ior .u16 p27 4))) · sz94 (.tmp rfl) rfl (.tmp rfl) rfl hp30) (rE ?_))
  try dsimp only [w0,w1,w2,w3]
  try dsimp only [w0,w1,w2,w3]
  exact J7_snd hrec0 h
 ·refine q_cond_f rfl (.tmp rfl) (bfalse hc24) (q_skipc rfl ?_)
  try dsimp only [w0,w1,w2,w3]
  exact J7_snd hrec0 h
def J5 (k : Nat) (rec0 : (Option HA) → (Option HA) → Int → HS → Option (((List HV)) × HS)) (y0 : (Option HA)) (y1 : (Option HA)) (y2 : Int) (y3 : Bool) (y4 : Bool) (y5 : Int) (y35 : Bool) (S : HS) : Option (((List HV)) × HS) :=
 (if y35 = true then
 (Option.bind (y1) fun p17 =>
 (if 0 ≤ (y2 : Int) ∧ (y2 : Int) < 256 then
 (Option.bind (HS.ldI S .u16 (HA.fld p17 (Int.toNat y2))) fun p19 =>
 (Option.bind (y1) fun p20 =>
 (if 0 ≤ (y2 : Int) ∧ (y2 : Int) < 256 then
 (Option.bind (HS.sets S (HA.fld p20 (Int.toNat y2)) [(.int .u16 (ior .u16 p19 2))]) fun p22 =>
 J6 k rec0 y0 y1 y2 y3 y4 y5 p22) else none))) else none)) else
 J6 k rec0 y0 y1 y2 y3 y4 y5 S)
theorem J5_snd {k : Nat} {rec0 : (Option HA) → (Option HA) → Int → HS → Option (((List HV)) × HS)} (hrec0 : ∀ ⦃y0 : (Option HA)⦄ ⦃y1 : (Option HA)⦄ ⦃y5 : Int⦄ ⦃S : HS⦄ ⦃p : ((List HV)) × HS⦄ ⦃Gc Gd Ge Gg Gh Gi Gj Gk Gl Gm Gn Go Gp Gq Gr Gs Gt Gu Gv Gw Gx Gy Gz Ka Kb Kc Kd Ke Kf Kg Kh Ki Kj Kk Kl Km Kn Ko Kp Kq Kr Ks Kt Ku Kv Kw Kx Ky Kz Ma Mb Mc Md Me Mf Mg Mh Mi Mj Mk Ml Mm Mn Mo Mp Mq Mr Ms Mt Mu Mv Mw Mx My Mz Na Nb Nc Nd Ne Nf Ng Nh Ni Nj Nk Nl Nm Nn No Np : HV⦄,rec0 y0 y1 y5 S = some p → HRun Tryz.prog base W0 β0 72 none [.inLoop c9,.inBlock 0,.code c65] ⟨[(.ptr y0),(.ptr y1),Gc,Gd,Ge,(.int .i64 y5),Gg,Gh,Gi,Gj,Gk,Gl,Gm,Gn,Go,Gp,Gq,Gr,Gs,Gt,Gu,Gv,Gw,Gx,Gy,Gz,Ka,Kb,Kc,Kd,Ke,Kf,Kg,Kh,Ki,Kj,Kk,Kl,Km,Kn,Ko,Kp,Kq,Kr,Ks,Kt,Ku,Kv,Kw,Kx,Ky,Kz,Ma,Mb,Mc,Md,Me,Mf,Mg,Mh,Mi,Mj,Mk,Ml,Mm,Mn,Mo,Mp,Mq,Mr,Ms,Mt,Mu,Mv,Mw,Mx,My,Mz,Na,Nb,Nc,Nd,Ne,Nf,Ng,Nh,Ni,Nj,Nk,Nl,Nm,Nn,No,Np],[]⟩ S (fun v S1 => v = (.agg p.1) ∧ S1 = p.2)) {y0 : (Option HA)} {y1 : (Option HA)} {y2 : Int} {y3 : Bool} {y4 : Bool} {y5 : Int} {y35 : Bool} {S : HS} {p : ((List HV)) × HS} {Gg Gh Gi Gj Gk Gl Gm Gn Go Gp Gq Gr Gs Gt Gu Gv Gw Gx Gy Gz Ka Kb Kc Kd Ke Kf Kg Kh Ki Kk Kl Km Kn Ko Kp Kq Kr Ks Kt Ku Kv Kw Kx Ky Kz Ma Mb Mc Md Me Mf Mg Mh Mi Mj Mk Ml Mm Mn Mo Mp Mq Mr Ms Mt Mu Mv Mw Mx My Mz Na Nb Nc Nd Ne Nf Ng Nh Ni Nj Nk Nl Nm Nn No Np : HV} (h : J5 k rec0 y0 y1 y2 y3 y4 y5 y35 S = some p) : HRun Tryz.prog base W0 β0 72 none [.code c32,.code c35,.inBlock 1,.code c64,.inLoop c9,.inBlock 0,.code c65] ⟨[(.ptr y0),(.ptr y1),(.int .i64 y2),(.bool y3),(.bool y4),(.int .i64 y5),Gg,Gh,Gi,Gj,Gk,Gl,Gm,Gn,Go,Gp,Gq,Gr,Gs,Gt,Gu,Gv,Gw,Gx,Gy,Gz,Ka,Kb,Kc,Kd,Ke,Kf,Kg,Kh,Ki,(.bool y35),Kk,Kl,Km,Kn,Ko,Kp,Kq,Kr,Ks,Kt,Ku,Kv,Kw,Kx,Ky,Kz,Ma,Mb,Mc,Md,Me,Mf,Mg,Mh,Mi,Mj,Mk,Ml,Mm,Mn,Mo,Mp,Mq,Mr,Ms,Mt,Mu,Mv,Mw,Mx,My,Mz,Na,Nb,Nc,Nd,Ne,Nf,Ng,Nh,Ni,Nj,Nk,Nl,Nm,Nn,No,Np],[]⟩ S (fun v S1 => v = (.agg p.1) ∧ S1 = p.2) := by
 unfold J5 at h
 rcases ifc h with ⟨hc16,h⟩ | ⟨hc16,h⟩
 ·obtain ⟨p17,hp17,h⟩ := bindo h
  obtain ⟨hg18,h⟩ := gd h
  obtain ⟨p19,hp19,h⟩ := bindo h
  refine q_cond_t rfl (.tmp rfl) hc16 (qR rfl rfl (qS 36 rfl (oM · rfl) (qS 37 rfl (ok_indexAddr_arr · ta107 sz94 (.tmp rfl) hp17 (.tmp rfl) hg18) (qS 38 rfl (oL · sc94 rfl rfl (ldI_out hp19)) (qS 39 rfl (oC · rfl rfl) ?_)))))
  try dsimp only [w0,w1,w2,w3]
  obtain ⟨p20,hp20,h⟩ := bindo h
  obtain ⟨hg21,h⟩ := gd h
  obtain ⟨p22,hp22,h⟩ := bindo h
  refine qS 40 rfl (ok_indexAddr_arr · ta107 sz94 (.tmp rfl) hp20 (.tmp rfl) hg21) (qN rfl (ok_store_s (v := (.int .u16 (ior .u16 p19 2))) · sz94 (.tmp rfl) rfl (.tmp rfl) rfl hp22) (rE ?_))
  try dsimp only [w0,w1,w2,w3]
  try dsimp only [w0,w1,w2,w3]
  exact J6_snd hrec0 h
 ·refine q_cond_f rfl (.tmp rfl) (bfalse hc16) (q_skipc rfl ?_)
  try dsimp only [w0,w1,w2,w3]
  exact J6_snd hrec0 h
def J4 (k : Nat) (rec0 : (Option HA) → (Option HA) → Int → HS → Option (((List HV)) × HS)) (y0 : (Option HA)) (y1 : (Option HA)) (y2 : Int) (y3 : Bool) (y4 : Bool) (y5 : Int) (S : HS) : Option (((List HV)) × HS) :=
 (if y3 = true then
 J5 k rec0 y0 y1 y2 y3 y4 y5 true S else
 J5 k rec0 y0 y1 y2 y3 y4 y5 (decide (y2 = 45)) S)
theorem J4_snd {k : Nat} {rec0 : (Option HA) → (Option HA) → Int → HS → Option (((List HV)) × HS)} (hrec0 : ∀ ⦃y0 : (Option HA)⦄ ⦃y1 : (Option HA)⦄ ⦃y5 : Int⦄ ⦃S : HS⦄ ⦃p : ((List HV)) × HS⦄ ⦃Gc Gd Ge Gg Gh Gi Gj Gk Gl Gm Gn Go Gp Gq Gr Gs Gt Gu Gv Gw Gx Gy Gz Ka Kb Kc Kd Ke Kf Kg Kh Ki Kj Kk Kl Km Kn Ko Kp Kq Kr Ks Kt Ku Kv Kw Kx Ky Kz Ma Mb Mc Md Me Mf Mg Mh Mi Mj Mk Ml Mm Mn Mo Mp Mq Mr Ms Mt Mu Mv Mw Mx My Mz Na Nb Nc Nd Ne Nf Ng Nh Ni Nj Nk Nl Nm Nn No Np : HV⦄,rec0 y0 y1 y5 S = some p → HRun Tryz.prog base W0 β0 72 none [.inLoop c9,.inBlock 0,.code c65] ⟨[(.ptr y0),(.ptr y1),Gc,Gd,Ge,(.int .i64 y5),Gg,Gh,Gi,Gj,Gk,Gl,Gm,Gn,Go,Gp,Gq,Gr,Gs,Gt,Gu,Gv,Gw,Gx,Gy,Gz,Ka,Kb,Kc,Kd,Ke,Kf,Kg,Kh,Ki,Kj,Kk,Kl,Km,Kn,Ko,Kp,Kq,Kr,Ks,Kt,Ku,Kv,Kw,Kx,Ky,Kz,Ma,Mb,Mc,Md,Me,Mf,Mg,Mh,Mi,Mj,Mk,Ml,Mm,Mn,Mo,Mp,Mq,Mr,Ms,Mt,Mu,Mv,Mw,Mx,My,Mz,Na,Nb,Nc,Nd,Ne,Nf,Ng,Nh,Ni,Nj,Nk,Nl,Nm,Nn,No,Np],[]⟩ S (fun v S1 => v = (.agg p.1) ∧ S1 = p.2)) {y0 : (Option HA)} {y1 : (Option HA)} {y2 : Int} {y3 : Bool} {y4 : Bool} {y5 : Int} {S : HS} {p : ((List HV)) × HS} {Gg Gh Gi Gj Gk Gl Gm Gn Go Gp Gq Gr Gs Gt Gu Gv Gw Gx Gy Gz Ka Kb Kc Kd Ke Kf Kg Kh Ki Kj Kk Kl Km Kn Ko Kp Kq Kr Ks Kt Ku Kv Kw Kx Ky Kz Ma Mb Mc Md Me Mf Mg Mh Mi Mj Mk Ml Mm Mn Mo Mp Mq Mr Ms Mt Mu Mv Mw Mx My Mz Na Nb Nc Nd Ne Nf Ng Nh Ni Nj Nk Nl Nm Nn No Np : HV} (h : J4 k rec0 y0 y1 y2 y3 y4 y5 S = some p) : HRun Tryz.prog base W0 β0 72 none [.code c29,.inBlock 1,.code c64,.inLoop c9,.inBlock 0,.code c65] ⟨[(.ptr y0),(.ptr y1),(.int .i64 y2),(.bool y3),(.bool y4),(.int .i64 y5),Gg,Gh,Gi,Gj,Gk,Gl,Gm,Gn,Go,Gp,Gq,Gr,Gs,Gt,Gu,Gv,Gw,Gx,Gy,Gz,Ka,Kb,Kc,Kd,Ke,Kf,Kg,Kh,Ki,Kj,Kk,Kl,Km,Kn,Ko,Kp,Kq,Kr,Ks,Kt,Ku,Kv,Kw,Kx,Ky,Kz,Ma,Mb,Mc,Md,Me,Mf,Mg,Mh,Mi,Mj,Mk,Ml,Mm,Mn,Mo,Mp,Mq,Mr,Ms,Mt,Mu,Mv,Mw,Mx,My,Mz,Na,Nb,Nc,Nd,Ne,Nf,Ng,Nh,Ni,Nj,Nk,Nl,Nm,Nn,No,Np],[]⟩ S (fun v S1 => v = (.agg p.1) ∧ S1 = p.2) := by
 unfold J4 at h
 refine qQ rfl (qQ rfl (qR rfl rfl (qS 31 rfl (oM · rfl) (qS 32 rfl (oM · rfl) ?_))))
 rcases ifc h with ⟨hc15,h⟩ | ⟨hc15,h⟩
 ·refine q_skip (dst := some 33) (t := 32) rfl rfl rfl hc15 (q_skip (dst := some 34) (t := 32) rfl rfl rfl hc15 ?_)
  try dsimp only [w0,w1,w2,w3]
  refine qS 35 rfl (ok_pick_tt · (.tmp rfl) hc15 (.bool _)) (rE ?_)
  try dsimp only [w0,w1,w2,w3]
  try dsimp only [w0,w1,w2,w3]
  exact J5_snd hrec0 h
 ·refine qG 32 33 rfl (bfalse hc15) (oM · rfl) (qG 32 34 rfl (bfalse hc15) (oC · rfl rfl) ?_)
  try dsimp only [w0,w1,w2,w3]
  refine qS 35 rfl (ok_pick_ff · (.tmp rfl) (bfalse hc15) (.tmp rfl)) (rE ?_)
  try dsimp only [w0,w1,w2,w3]
  try dsimp only [w0,w1,w2,w3]
  exact J5_snd hrec0 h
def J3 (k : Nat) (rec0 : (Option HA) → (Option HA) → Int → HS → Option (((List HV)) × HS)) (y0 : (Option HA)) (y1 : (Option HA)) (y2 : Int) (y3 : Bool) (y4 : Bool) (y5 : Int) (y25 : Bool) (S : HS) : Option (((List HV)) × HS) :=
 (if y25 = true then
 (Option.bind (y1) fun p9 =>
 (if 0 ≤ (y2 : Int) ∧ (y2 : Int) < 256 then
 (Option.bind (HS.ldI S .u16 (HA.fld p9 (Int.toNat y2))) fun p11 =>
 (Option.bind (y1) fun p12 =>
 (if 0 ≤ (y2 : Int) ∧ (y2 : Int) < 256 then
 (Option.bind (HS.sets S (HA.fld p12 (Int.toNat y2)) [(.int .u16 (ior .u16 p11 3))]) fun p14 =>
 J4 k rec0 y0 y1 y2 y3 y4 y5 p14) else none))) else none)) else
 J4 k rec0 y0 y1 y2 y3 y4 y5 S)
theorem J3_snd {k : Nat} {rec0 : (Option HA) → (Option HA) → Int → HS → Option (((List HV)) × HS)} (hrec0 : ∀ ⦃y0 : (Option HA)⦄ ⦃y1 : (Option HA)⦄ ⦃y5 : Int⦄ ⦃S : HS⦄ ⦃p : ((List HV)) × HS⦄ ⦃Gc Gd Ge Gg Gh Gi Gj Gk Gl Gm Gn Go Gp Gq Gr Gs Gt Gu Gv Gw Gx Gy Gz Ka Kb Kc Kd Ke Kf Kg Kh Ki Kj Kk Kl Km Kn Ko Kp Kq Kr Ks Kt Ku Kv Kw Kx Ky Kz Ma Mb Mc Md Me Mf Mg Mh Mi Mj Mk Ml Mm Mn Mo Mp Mq Mr Ms Mt Mu Mv Mw Mx My Mz Na Nb Nc Nd Ne Nf Ng Nh Ni Nj Nk Nl Nm Nn No Np : HV⦄,rec0 y0 y1 y5 S = some p → HRun Tryz.prog base W0 β0 72 none [.inLoop c9,.inBlock 0,.code c65] ⟨[(.ptr y0),(.ptr y1),Gc,Gd,Ge,(.int .i64 y5),Gg,Gh,Gi,Gj,Gk,Gl,Gm,Gn,Go,Gp,Gq,Gr,Gs,Gt,Gu,Gv,Gw,Gx,Gy,Gz,Ka,Kb,Kc,Kd,Ke,Kf,Kg,Kh,Ki,Kj,Kk,Kl,Km,Kn,Ko,Kp,Kq,Kr,Ks,Kt,Ku,Kv,Kw,Kx,Ky,Kz,Ma,Mb,Mc,Md,Me,Mf,Mg,Mh,Mi,Mj,Mk,Ml,Mm,Mn,Mo,Mp,Mq,Mr,Ms,Mt,Mu,Mv,Mw,Mx,My,Mz,Na,Nb,Nc,Nd,Ne,Nf,Ng,Nh,Ni,Nj,Nk,Nl,Nm,Nn,No,Np],[]⟩ S (fun v S1 => v = (.agg p.1) ∧ S1 = p.2)) {y0 : (Option HA)} {y1 : (Option HA)} {y2 : Int} {y3 : Bool} {y4 : Bool} {y5 : Int} {y25 : Bool} {S : HS} {p : ((List HV)) × HS} {Gg Gh Gi Gj Gk Gl Gm Gn Go Gp Gq Gr Gs Gt Gu Gv Gw Gx Gy Ka Kb Kc Kd Ke Kf Kg Kh Ki Kj Kk Kl Km Kn Ko Kp Kq Kr Ks Kt Ku Kv Kw Kx Ky Kz Ma Mb Mc Md Me Mf Mg Mh Mi Mj Mk Ml Mm Mn Mo Mp Mq Mr Ms Mt Mu Mv Mw Mx My Mz Na Nb Nc Nd Ne Nf Ng Nh Ni Nj Nk Nl Nm Nn No Np : HV} (h : J3 k rec0 y0 y1 y2 y3 y4 y5 y25 S = some p) : HRun Tryz.prog base W0 β0 72 none [.code c26,.code c29,.inBlock 1,.code c64,.inLoop c9,.inBlock 0,.code c65] ⟨[(.ptr y0),(.ptr y1),(.int .i64 y2),(.bool y3),(.bool y4),(.int .i64 y5),Gg,Gh,Gi,Gj,Gk,Gl,Gm,Gn,Go,Gp,Gq,Gr,Gs,Gt,Gu,Gv,Gw,Gx,Gy,(.bool y25),Ka,Kb,Kc,Kd,Ke,Kf,Kg,Kh,Ki,Kj,Kk,Kl,Km,Kn,Ko,Kp,Kq,Kr,Ks,Kt,Ku,Kv,Kw,Kx,Ky,Kz,Ma,Mb,Mc,Md,Me,Mf,Mg,Mh,Mi,Mj,Mk,Ml,Mm,Mn,Mo,Mp,Mq,Mr,Ms,Mt,Mu,Mv,Mw,Mx,My,Mz,Na,Nb,Nc,Nd,Ne,Nf,Ng,Nh,Ni,Nj,Nk,Nl,Nm,Nn,No,Np],[]⟩ S (fun v S1 => v = (.agg p.1) ∧ S1 = p.2) := by
 unfold J3 at h
 rcases ifc h with ⟨hc8,h⟩ | ⟨hc8,h⟩
 ·obtain ⟨p9,hp9,h⟩ := bindo h
  obtain ⟨hg10,h⟩ := gd h
  obtain ⟨p11,hp11,h⟩ := bindo h
  refine q_cond_t rfl (.tmp rfl) hc8 (qR rfl rfl (qS 26 rfl (oM · rfl) (qS 27 rfl (ok_indexAddr_arr · ta107 sz94 (.tmp rfl) hp9 (.tmp rfl) hg10) (qS 28 rfl (oL · sc94 rfl rfl (ldI_out hp11)) (qS 29 rfl (oC · rfl rfl) ?_)))))
  try dsimp only [w0,w1,w2,w3]
  obtain ⟨p12,hp12,h⟩ := bindo h
  obtain ⟨hg13,h⟩ := gd h
  obtain ⟨p14,hp14,h⟩ := bindo h
  refine qS 30 rfl (ok_indexAddr_arr · ta107 sz94 (.tmp rfl) hp12 (.tmp rfl) hg13) (qN rfl (ok_store_s (v := (.int .u16 (ior .u16 p11 3))) · sz94 (.tmp rfl) rfl (.tmp rfl) rfl hp14) (rE ?_))
  try dsimp only [w0,w1,w2,w3]
  try dsimp only [w0,w1,w2,w3]
  exact J4_snd hrec0 h
 ·refine q_cond_f rfl (.tmp rfl) (bfalse hc8) (q_skipc rfl ?_)
  try dsimp only [w0,w1,w2,w3]
  exact J4_snd hrec0 h
def J2 (k : Nat) (rec0 : (Option HA) → (Option HA) → Int → HS → Option (((List HV)) × HS)) (y0 : (Option HA)) (y1 : (Option HA)) (y2 : Int) (y3 : Bool) (y5 : Int) (y19 : Bool) (S : HS) : Option (((List HV)) × HS) :=
 (Option.bind (valid_letter.f y2) fun p6 =>
 (if p6 = true then
 J3 k rec0 y0 y1 y2 y3 y19 y5 true S else
 (Option.bind (valid_has.f ([91,93,92,95,94,123,124,125,96] : List UInt8) y2) fun p67 =>
 J3 k rec0 y0 y1 y2 y3 y19 y5 p67 S)))
theorem J2_snd {k : Nat} {rec0 : (Option HA) → (Option HA) → Int → HS → Option (((List HV)) × HS)} (hrec0 : ∀ ⦃y0 : (Option HA)⦄ ⦃y1 : (Option HA)⦄ ⦃y5 : Int⦄ ⦃S : HS⦄ ⦃p : ((List HV)) × HS⦄ ⦃Gc Gd Ge Gg Gh Gi Gj Gk Gl Gm Gn Go Gp Gq Gr Gs Gt Gu Gv Gw Gx Gy Gz Ka Kb Kc Kd Ke Kf Kg Kh Ki Kj Kk Kl Km Kn Ko Kp Kq Kr Ks Kt Ku Kv Kw Kx Ky Kz Ma Mb Mc Md Me Mf Mg Mh Mi Mj Mk Ml Mm Mn Mo Mp Mq Mr Ms Mt Mu Mv Mw Mx My Mz Na Nb Nc Nd Ne Nf Ng Nh Ni Nj Nk Nl Nm Nn No Np : HV⦄,rec0 y0 y1 y5 S = some p → HRun Tryz.prog base W0 β0 72 none [.inLoop c9,.inBlock 0,.code c65] ⟨[(.ptr y0),(.ptr y1),Gc,Gd,Ge,(.int .i64 y5),Gg,Gh,Gi,Gj,Gk,Gl,Gm,Gn,Go,Gp,Gq,Gr,Gs,Gt,Gu,Gv,Gw,Gx,Gy,Gz,Ka,Kb,Kc,Kd,Ke,Kf,Kg,Kh,Ki,Kj,Kk,Kl,Km,Kn,Ko,Kp,Kq,Kr,Ks,Kt,Ku,Kv,Kw,Kx,Ky,Kz,Ma,Mb,Mc,Md,Me,Mf,Mg,Mh,Mi,Mj,Mk,Ml,Mm,Mn,Mo,Mp,Mq,Mr,Ms,Mt,Mu,Mv,Mw,Mx,My,Mz,Na,Nb,Nc,Nd,Ne,Nf,Ng,Nh,Ni,Nj,Nk,Nl,Nm,Nn,No,Np],[]⟩ S (fun v S1 => v = (.agg p.1) ∧ S1 = p.2)) {y0 : (Option HA)} {y1 : (Option HA)} {y2 : Int} {y3 : Bool} {y5 : Int} {y19 : Bool} {S : HS} {p : ((List HV)) × HS} {Ge Gg Gh Gi Gj Gk Gl Gm Gn Go Gp Gq Gr Gs Gu Gv Gw Gx Gy Gz Ka Kb Kc Kd Ke Kf Kg Kh Ki Kj Kk Kl Km Kn Ko Kp Kq Kr Ks Kt Ku Kv Kw Kx Ky Kz Ma Mb Mc Md Me Mf Mg Mh Mi Mj Mk Ml Mm Mn Mo Mp Mq Mr Ms Mt Mu Mv Mw Mx My Mz Na Nb Nc Nd Ne Nf Ng Nh Ni Nj Nk Nl Nm Nn No Np : HV} (h : J2 k rec0 y0 y1 y2 y3 y5 y19 S = some p) : HRun Tryz.prog base W0 β0 72 none [.inRegion r22 [6],.code c23,.inBlock 1,.code c64,.inLoop c9,.inBlock 0,.code c65] ⟨[(.ptr y0),(.ptr y1),(.int .i64 y2),(.bool y3),Ge,(.int .i64 y5),Gg,Gh,Gi,Gj,Gk,Gl,Gm,Gn,Go,Gp,Gq,Gr,Gs,(.bool y19),Gu,Gv,Gw,Gx,Gy,Gz,Ka,Kb,Kc,Kd,Ke,Kf,Kg,Kh,Ki,Kj,Kk,Kl,Km,Kn,Ko,Kp,Kq,Kr,Ks,Kt,Ku,Kv,Kw,Kx,Ky,Kz,Ma,Mb,Mc,Md,Me,Mf,Mg,Mh,Mi,Mj,Mk,Ml,Mm,Mn,Mo,Mp,Mq,Mr,Ms,Mt,Mu,Mv,Mw,Mx,My,Mz,Na,Nb,Nc,Nd,Ne,Nf,Ng,Nh,Ni,Nj,Nk,Nl,Nm,Nn,No,Np],[]⟩ S (fun v S1 => v = (.agg p.1) ∧ S1 = p.2) := by
 unfold J2 at h
 refine qS 4 rfl (oA · rfl) (rE ?_)
 try dsimp only [w0,w1,w2,w3]
 obtain ⟨p6,hp6,h⟩ := bindo h
 refine qQ rfl (qQ rfl (qR rfl rfl (qS 20 rfl (oM · rfl) (q_call (dst := some 21) rfl (.func _) (.cons (.tmp rfl) Evs.nil) (HInv.static valid_letter.at_ valid_letter.body (valid_letter.snd  hp6)) ?_))))
 rintro _ _ ⟨rfl,rfl⟩
 refine qS 22 rfl (oM · rfl) ?_
 rcases ifc h with ⟨hc7,h⟩ | ⟨hc7,h⟩
 ·refine q_skip (dst := some 23) (t := 22) rfl rfl rfl hc7 ?_
  try dsimp only [w0,w1,w2,w3]
  refine q_skip (dst := some 24) (t := 22) rfl rfl rfl hc7 (qS 25 rfl (ok_pick_tt · (.tmp rfl) hc7 (.bool _)) (rE ?_))
  try dsimp only [w0,w1,w2,w3]
  try dsimp only [w0,w1,w2,w3]
  exact J3_snd hrec0 h
 ·refine qG 22 23 rfl (bfalse hc7) (oM · rfl) ?_
  try dsimp only [w0,w1,w2,w3]
  obtain ⟨p67,hp67,h⟩ := bindo h
  refine q_call_g (t := 22) (dst := some 24) rfl rfl rfl (bfalse hc7) (.func _) (.cons (.str _) (.cons (.tmp rfl) Evs.nil)) (HInv.static valid_has.at_ valid_has.body (valid_has.snd  hp67)) ?_
  rintro _ _ ⟨rfl,rfl⟩
  refine qS 25 rfl (ok_pick_ff · (.tmp rfl) (bfalse hc7) (.tmp rfl)) (rE ?_)
  try dsimp only [w0,w1,w2,w3]
  try dsimp only [w0,w1,w2,w3]
  exact J3_snd hrec0 h
def J1 (k : Nat) (rec0 : (Option HA) → (Option HA) → Int → HS → Option (((List HV)) × HS)) (y0 : (Option HA)) (y1 : (Option HA)) (y2 : Int) (y5 : Int) (y13 : Bool) (S : HS) : Option (((List HV)) × HS) :=
 (if y2 ≥ 33 then
 J2 k rec0 y0 y1 y2 y13 y5 (decide (y2 ≤ 126)) S else
 J2 k rec0 y0 y1 y2 y13 y5 false S)
theorem J1_snd {k : Nat} {rec0 : (Option HA) → (Option HA) → Int → HS → Option (((List HV)) × HS)} (hrec0 : ∀ ⦃y0 : (Option HA)⦄ ⦃y1 : (Option HA)⦄ ⦃y5 : Int⦄ ⦃S : HS⦄ ⦃p : ((List HV)) × HS⦄ ⦃Gc Gd Ge Gg Gh Gi Gj Gk Gl Gm Gn Go Gp Gq Gr Gs Gt Gu Gv Gw Gx Gy Gz Ka Kb Kc Kd Ke Kf Kg Kh Ki Kj Kk Kl Km Kn Ko Kp Kq Kr Ks Kt Ku Kv Kw Kx Ky Kz Ma Mb Mc Md Me Mf Mg Mh Mi Mj Mk Ml Mm Mn Mo Mp Mq Mr Ms Mt Mu Mv Mw Mx My Mz Na Nb Nc Nd Ne Nf Ng Nh Ni Nj Nk Nl Nm Nn No Np : HV⦄,rec0 y0 y1 y5 S = some p → HRun Tryz.prog base W0 β0 72 none [.inLoop c9,.inBlock 0,.code c65] ⟨[(.ptr y0),(.ptr y1),Gc,Gd,Ge,(.int .i64 y5),Gg,Gh,Gi,Gj,Gk,Gl,Gm,Gn,Go,Gp,Gq,Gr,Gs,Gt,Gu,Gv,Gw,Gx,Gy,Gz,Ka,Kb,Kc,Kd,Ke,Kf,Kg,Kh,Ki,Kj,Kk,Kl,Km,Kn,Ko,Kp,Kq,Kr,Ks,Kt,Ku,Kv,Kw,Kx,Ky,Kz,Ma,Mb,Mc,Md,Me,Mf,Mg,Mh,Mi,Mj,Mk,Ml,Mm,Mn,Mo,Mp,Mq,Mr,Ms,Mt,Mu,Mv,Mw,Mx,My,Mz,Na,Nb,Nc,Nd,Ne,Nf,Ng,Nh,Ni,Nj,Nk,Nl,Nm,Nn,No,Np],[]⟩ S (fun v S1 => v = (.agg p.1) ∧ S1 = p.2)) {y0 : (Option HA)} {y1 : (Option HA)} {y2 : Int} {y5 : Int} {y13 : Bool} {S : HS} {p : ((List HV)) × HS} {Gd Ge Gg Gh Gi Gj Gk Gl Gm Go Gp Gq Gr Gs Gt Gu Gv Gw Gx Gy Gz Ka Kb Kc Kd Ke Kf Kg Kh Ki Kj Kk Kl Km Kn Ko Kp Kq Kr Ks Kt Ku Kv Kw Kx Ky Kz Ma Mb Mc Md Me Mf Mg Mh Mi Mj Mk Ml Mm Mn Mo Mp Mq Mr Ms Mt Mu Mv Mw Mx My Mz Na Nb Nc Nd Ne Nf Ng Nh Ni Nj Nk Nl Nm Nn No Np : HV} (h : J1 k rec0 y0 y1 y2 y5 y13 S = some p) : HRun Tryz.prog base W0 β0 72 none [.inRegion r20 [6],.code c21,.inBlock 1,.code c64,.inLoop c9,.inBlock 0,.code c65] ⟨[(.ptr y0),(.ptr y1),(.int .i64 y2),Gd,Ge,(.int .i64 y5),Gg,Gh,Gi,Gj,Gk,Gl,Gm,(.bool y13),Go,Gp,Gq,Gr,Gs,Gt,Gu,Gv,Gw,Gx,Gy,Gz,Ka,Kb,Kc,Kd,Ke,Kf,Kg,Kh,Ki,Kj,Kk,Kl,Km,Kn,Ko,Kp,Kq,Kr,Ks,Kt,Ku,Kv,Kw,Kx,Ky,Kz,Ma,Mb,Mc,Md,Me,Mf,Mg,Mh,Mi,Mj,Mk,Ml,Mm,Mn,Mo,Mp,Mq,Mr,Ms,Mt,Mu,Mv,Mw,Mx,My,Mz,Na,Nb,Nc,Nd,Ne,Nf,Ng,Nh,Ni,Nj,Nk,Nl,Nm,Nn,No,Np],[]⟩ S (fun v S1 => v = (.agg p.1) ∧ S1 = p.2) := by
 unfold J1 at h
 refine qS 3 rfl (oA · rfl) (rE ?_)
 try dsimp only [w0,w1,w2,w3]
 refine qQ rfl (qR rfl rfl (qS 14 rfl (oM · rfl) (qS 15 rfl (oC · rfl rfl) (qS 16 rfl (oM · rfl) ?_))))
 rcases ifc h with ⟨hc5,h⟩ | ⟨hc5,h⟩
 ·refine qG 16 17 rfl (decide_eq_true hc5) (oM · rfl) ?_
  try dsimp only [w0,w1,w2,w3]
  refine qG 16 18 rfl (decide_eq_true hc5) (oC · rfl rfl) (qS 19 rfl (ok_pick_tt · (.tmp rfl) (decide_eq_true hc5) (.tmp rfl)) ?_)
  try dsimp only [w0,w1,w2,w3]
  exact J2_snd hrec0 h
 ·refine q_skip (dst := some 17) (t := 16) rfl rfl rfl (decide_eq_false hc5) ?_
  try dsimp only [w0,w1,w2,w3]
  refine q_skip (dst := some 18) (t := 16) rfl rfl rfl (decide_eq_false hc5) (qS 19 rfl (ok_pick_ff · (.tmp rfl) (decide_eq_false hc5) (.bool _)) ?_)
  try dsimp only [w0,w1,w2,w3]
  exact J2_snd hrec0 h
def L0 (k : Nat) : Nat → (Option HA) → (Option HA) → Int → HS → Option (((List HV)) × HS)
 | 0,_,_,_,_ => none
 | n + 1,y0,y1,y5,S =>
  (if y5 < 256 then
  (if y5 ≥ 48 then
  J1 k (L0 k n) y0 y1 y5 y5 (decide (y5 ≤ 57)) S else
  J1 k (L0 k n) y0 y1 y5 y5 false S) else
  (Option.bind (y1) fun p68 =>
  (Option.bind (HS.gets S p68 256) fun p69 =>
  (Option.bind (y0) fun p70 =>
  (if List.length p69 = 256 ∧ List.all p69 HV.flat = true then
  (Option.bind (HS.sets S p70 p69) fun p72 =>
  (Option.bind (y0) fun p73 =>
  (Option.bind (HS.gets p72 p73 256) fun p74 =>
  some (p74,p72)))) else none)))))
theorem L0_snd {k : Nat}  : ∀ {n : Nat} ⦃y0 : (Option HA)⦄ ⦃y1 : (Option HA)⦄ ⦃y5 : Int⦄ ⦃S : HS⦄ ⦃p : ((List HV)) × HS⦄ ⦃Gc Gd Ge Gg Gh Gi Gj Gk Gl Gm Gn Go Gp Gq Gr Gs Gt Gu Gv Gw Gx Gy Gz Ka Kb Kc Kd Ke Kf Kg Kh Ki Kj Kk Kl Km Kn Ko Kp Kq Kr Ks Kt Ku Kv Kw Kx Ky Kz Ma Mb Mc Md Me Mf Mg Mh Mi Mj Mk Ml Mm Mn Mo Mp Mq Mr Ms Mt Mu Mv Mw Mx My Mz Na Nb Nc Nd Ne Nf Ng Nh Ni Nj Nk Nl Nm Nn No Np : HV⦄,L0 k n y0 y1 y5 S = some p → HRun Tryz.prog base W0 β0 72 none [.inLoop c9,.inBlock 0,.code c65] ⟨[(.ptr y0),(.ptr y1),Gc,Gd,Ge,(.int .i64 y5),Gg,Gh,Gi,Gj,Gk,Gl,Gm,Gn,Go,Gp,Gq,Gr,Gs,Gt,Gu,Gv,Gw,Gx,Gy,Gz,Ka,Kb,Kc,Kd,Ke,Kf,Kg,Kh,Ki,Kj,Kk,Kl,Km,Kn,Ko,Kp,Kq,Kr,Ks,Kt,Ku,Kv,Kw,Kx,Ky,Kz,Ma,Mb,Mc,Md,Me,Mf,Mg,Mh,Mi,Mj,Mk,Ml,Mm,Mn,Mo,Mp,Mq,Mr,Ms,Mt,Mu,Mv,Mw,Mx,My,Mz,Na,Nb,Nc,Nd,Ne,Nf,Ng,Nh,Ni,Nj,Nk,Nl,Nm,Nn,No,Np],[]⟩ S (fun v S1 => v = (.agg p.1) ∧ S1 = p.2) := by
 intro n
 induction n with
 | zero => intro _ _ _ _ _ _ _ _ _ _ _ _ _ _ _ _ _ _ _ _ _ _ _ _ _ _ _ _ _ _ _ _ _ _ _ _ _ _ _ _ _ _ _ _ _ _ _ _ _ _ _ _ _ _ _ _ _ _ _ _ _ _ _ _ _ _ _ _ _ _ _ _ _ _ _ _ _ _ _ _ _ _ _ _ _ _ _ _ _ _ _ _ _ _ _ _ h; cases h
 | succ n ih =>
  intro y0 y1 y5 S p Gc Gd Ge Gg Gh Gi Gj Gk Gl Gm Gn Go Gp Gq Gr Gs Gt Gu Gv Gw Gx Gy Gz Ka Kb Kc Kd Ke Kf Kg Kh Ki Kj Kk Kl Km Kn Ko Kp Kq Kr Ks Kt Ku Kv Kw Kx Ky Kz Ma Mb Mc Md Me Mf Mg Mh Mi Mj Mk Ml Mm Mn Mo Mp Mq Mr Ms Mt Mu Mv Mw Mx My Mz Na Nb Nc Nd Ne Nf Ng Nh Ni Nj Nk Nl Nm Nn No Np h
  simp only [L0] at h
  refine hr_inLoop (qQ rfl (qR rfl rfl (qS 6 rfl (oC · rfl rfl) (rE ?_))))
  try dsimp only [w0,w1,w2,w3]
  refine qQ rfl ?_
  rcases ifc h with ⟨hc3,h⟩ | ⟨hc3,h⟩
  ·refine q_cond_t rfl (.tmp rfl) (decide_eq_true hc3) (q_skipc rfl (qQ rfl (q_block rfl (qQ rfl (qR rfl rfl (qS 7 rfl (oM · rfl) (qS 2 rfl (oA · rfl) (rE ?_))))))))
   try dsimp only [w0,w1,w2,w3]
   refine qQ rfl (qR rfl rfl (qS 8 rfl (oM · rfl) (qS 9 rfl (oC · rfl rfl) (qS 10 rfl (oM · rfl) ?_))))
   rcases ifc h with ⟨hc4,h⟩ | ⟨hc4,h⟩
   ·refine qG 10 11 rfl (decide_eq_true hc4) (oM · rfl) ?_
    try dsimp only [w0,w1,w2,w3]
    refine qG 10 12 rfl (decide_eq_true hc4) (oC · rfl rfl) (qS 13 rfl (ok_pick_tt · (.tmp rfl) (decide_eq_true hc4) (.tmp rfl)) ?_)
    try dsimp only [w0,w1,w2,w3]
    exact J1_snd ih h
   ·refine q_skip (dst := some 11) (t := 10) rfl rfl rfl (decide_eq_false hc4) ?_
    try dsimp only [w0,w1,w2,w3]
    refine q_skip (dst := some 12) (t := 10) rfl rfl rfl (decide_eq_false hc4) (qS 13 rfl (ok_pick_ff · (.tmp rfl) (decide_eq_false hc4) (.bool _)) ?_)
    try dsimp only [w0,w1,w2,w3]
    exact J1_snd ih h
  ·obtain ⟨p68,hp68,h⟩ := bindo h
   obtain ⟨p69,hp69,h⟩ := bindo h
   obtain ⟨p70,hp70,h⟩ := bindo h
   obtain ⟨hg71,h⟩ := gd h
   obtain ⟨p72,hp72,h⟩ := bindo h
   refine q_cond_f rfl (.tmp rfl) (decide_eq_false hc3) (q_exit rfl rfl (qQ rfl (qR rfl rfl (qS 93 rfl (ok_load_arr · ia107 (.tmp rfl) hp68 hp69) (qN rfl (ok_store_arr · sz107 (.tmp rfl) hp70 (.tmp rfl) hg71 hp72) (rE ?_))))))
   try dsimp only [w0,w1,w2,w3]
   obtain ⟨p73,hp73,h⟩ := bindo h
   obtain ⟨p74,hp74,h⟩ := bindo h
   cases h
   exact q_ret rfl at_.at_ rfl (resL1 rfl (ResAt.arr rfl hp73 ia107 (by decide) hp74)) ⟨rfl,rfl⟩
def f (k : Nat) (S : HS) : Option (((List HV)) × HS) :=
 (letv (HS.new S (.cells 256 [List.replicate 256 (.int .u16 0)] true)) fun p1 =>
 (letv (HS.new p1 (.cells 256 [List.replicate 256 (.int .u16 0)] true)) fun p2 =>
 L0 k k (some (HA.cell0 S.next)) (some (HA.cell0 p1.next)) 0 p2))
theorem snd {k : Nat} {S : HS}  {p : ((List HV)) × HS} (h : f k S = some p) : HCall Tryz.prog base W0 β0 72 [] S (fun v S1 => v = (.agg p.1) ∧ S1 = p.2) := by
 unfold f at h
 refine HCall.of_run at_.at_ body ?_
 show HRun Tryz.prog base W0 β0 72 none [.code c0] ⟨[τ,τ,τ,τ,τ,τ,τ,τ,τ,τ,τ,τ,τ,τ,τ,τ,τ,τ,τ,τ,τ,τ,τ,τ,τ,τ,τ,τ,τ,τ,τ,τ,τ,τ,τ,τ,τ,τ,τ,τ,τ,τ,τ,τ,τ,τ,τ,τ,τ,τ,τ,τ,τ,τ,τ,τ,τ,τ,τ,τ,τ,τ,τ,τ,τ,τ,τ,τ,τ,τ,τ,τ,τ,τ,τ,τ,τ,τ,τ,τ,τ,τ,τ,τ,τ,τ,τ,τ,τ,τ,τ,τ,τ,τ],[]⟩ S _
 obtain ⟨p1,hp1,h⟩ := leto h
 refine qQ rfl (qR rfl rfl (qS 0 rfl (ok_alloc_arr · za107 (fun β => .int _ _) (by decide) rfl hp1) (rE ?_)))
 try dsimp only [w0,w1,w2,w3]
 obtain ⟨p2,hp2,h⟩ := leto h
 refine qQ rfl (qR rfl rfl (qS 1 rfl (ok_alloc_arr · za107 (fun β => .int _ _) (by decide) rfl hp2) (rE ?_)))
 try dsimp only [w0,w1,w2,w3]
 refine qQ rfl (qQ rfl (qR rfl rfl (qS 5 rfl (ok_move · (.int _ _)) (rE ?_))))
 try dsimp only [w0,w1,w2,w3]
 refine q_block rfl (q_loop rfl ?_)
 try dsimp only [w0,w1,w2,w3]
 exact L0_snd  h
end
end valid_kinds
end Go.Proofs.YtcphapfclncggaaGreatDoor.X
