/- Functions of the program, each as a Lean function over the layer HL: a call answers what the Lean function answers, where it answers. The layer valid: the table of kinds, plain. The layer valid: whether all bytes of a text are of a kind, plain. The layer valid: a strings.Builder, plain. -/
import Derived.Test.YtfningkbcfhheaaGreatDoorProg
import Derived.Test.YtfningkbcfhheaaGreatDoorPart8
import Derived.Test.YtfningkbcfhheaaGreatDoorPart5
set_option linter.unusedVariables false
set_option linter.unusedSimpArgs false
namespace Go.Proofs.YtfningkbcfhheaaGreatDoor.X
open Go.Proofs.YtfningkbcfhheaaGreatDoor.HL
set_option linter.unusedVariables false
set_option linter.unusedSimpArgs false
set_option maxRecDepth 20000
set_option maxHeartbeats 4000000
theorem ext213 : ExtAt Tryz.prog 213 Extern.BytealgIndexByte.indexByte := ⟨Tryz.f213,Tryz.func213,by kernel_rfl,by kernel_rfl,by kernel_rfl,by kernel_rfl⟩
theorem tu3 : Tryz.prog.underlying 3 = some (.int .i64) := by kernel_rfl
theorem tu5 : Tryz.prog.underlying 5 = some (.int .u8) := by kernel_rfl
theorem za156 : (Tryz.prog.info? 156).map (·.zero) = some (some (.agg (Array.replicate 256 (.int .u16 0)))) := by kernel_rfl
theorem ta156 : Tryz.prog.underlying 156 = some (.array 256 155) := by kernel_rfl
theorem sz155 : ∃ q,Tryz.prog.info? 155 = some q ∧ q.size = 1 := size_mk' (by kernel_rfl)
theorem sc155 : Scalar Tryz.prog 155 := ⟨(.int .u16),by kernel_rfl,trivial⟩
theorem ia156 : IsAgg Tryz.prog 156 256 := isAgg_mk2 (by kernel_rfl) (by kernel_rfl)
theorem sz156 : ∃ q,Tryz.prog.info? 156 = some q ∧ q.size = 256 := size_mk' (by kernel_rfl)
theorem fi160_1 : fieldInfo Tryz.prog 160 1 = some (1,49,1) := by kernel_rfl
theorem sc49 : Scalar Tryz.prog 49 := ⟨(.slice 5),by kernel_rfl,trivial⟩
theorem tu49 : Tryz.prog.underlying 49 = some (.slice 5) := by kernel_rfl
theorem fi160_0 : fieldInfo Tryz.prog 160 0 = some (0,158,1) := by kernel_rfl
theorem sc158 : Scalar Tryz.prog 158 := ⟨(.pointer 160),by kernel_rfl,trivial⟩
theorem tu158 : Tryz.prog.underlying 158 = some (.pointer 160) := by kernel_rfl
theorem nz160 : (Tryz.prog.info? 160).map (fun i => decide (i.size ≠ 0)) = some true := by kernel_rfl
theorem tu297 : Tryz.prog.underlying 297 = some .unsafePointer := by kernel_rfl
theorem ext205 : ExtAt Tryz.prog 205 Extern.AbiNoEscape.same := ⟨Tryz.f205,Tryz.func205,by kernel_rfl,by kernel_rfl,by kernel_rfl,by kernel_rfl⟩
theorem ih160 : (Tryz.prog.info? 160).isSome = true := by kernel_rfl
theorem cz160 : 2 = Tryz.prog.cellsOf 160 := by kernel_rfl
theorem sz158 : ∃ q,Tryz.prog.info? 158 = some q ∧ q.size = 1 := size_mk' (by kernel_rfl)
theorem el49 : ElemAt Tryz.prog 49 5 1 [(.int .u8 0)] := elemAt_mk (zv := (.int .u8 0)) (by_ := 1) (by kernel_rfl) (by kernel_rfl) (by decide) (fun β => VRels.cons (.int _ _) (VRels.nil β)) rfl (by decide) rfl
theorem sz49 : ∃ q,Tryz.prog.info? 49 = some q ∧ q.size = 1 := size_mk' (by kernel_rfl)
theorem ch5 : Tryz.prog.cellsOf 5 = 1 := by kernel_rfl
theorem tu231 : Tryz.prog.underlying 231 = some (.pointer 5) := by kernel_rfl
theorem zi160 : (Tryz.prog.info? 160).map (·.zero) = some (some (.agg #[(.pointer none),(.slice none 0 0)])) := by kernel_rfl
theorem zr160 : ∀ β,VRels β [(.ptr none),(Sl.hv Sl.nil)] (Value.cells (.agg #[(.pointer none),(.slice none 0 0)])) := fun β => VRels.cons (.ptrNil) (VRels.cons (.slNil none) (VRels.nil β))
theorem tu9 : Tryz.prog.underlying 9 = some .string := by kernel_rfl
theorem sz5 : ∃ q,Tryz.prog.info? 5 = some q ∧ q.size = 1 := size_mk' (by kernel_rfl)
theorem sc5 : Scalar Tryz.prog 5 := ⟨(.int .u8),by kernel_rfl,trivial⟩
theorem si5 : SizeIs Tryz.prog 5 1 1 := sizeIs_mk (by kernel_rfl)
theorem tu247 : Tryz.prog.underlying 247 = some (.slice 252) := by kernel_rfl
theorem sz252 : ∃ q,Tryz.prog.info? 252 = some q ∧ q.size = 2 := size_mk' (by kernel_rfl)
theorem ia252 : IsAgg Tryz.prog 252 2 := isAgg_mk2 (by kernel_rfl) (by kernel_rfl)
theorem si252 : SizeIs Tryz.prog 252 2 16 := sizeIs_mk (by kernel_rfl)
theorem el247 : ElemAt Tryz.prog 247 252 2 [(.int .i64 0),(.int .i64 0)] := elemAt_mk (zv := (.agg #[(.int .i64 0),(.int .i64 0)])) (by_ := 16) (by kernel_rfl) (by kernel_rfl) (by decide) (fun β => VRels.cons (.int _ _) (VRels.cons (.int _ _) (VRels.nil β))) rfl (by decide) rfl
theorem ext216 : ExtAt Tryz.prog 216 (Extern.SlicesOverlaps.overlaps #[247,247] #[4]) := ⟨Tryz.f216,Tryz.func216,by kernel_rfl,by kernel_rfl,by kernel_rfl,by kernel_rfl⟩
theorem tu76 : Tryz.prog.underlying 76 = some (.slice 3) := by kernel_rfl
theorem sz3 : ∃ q,Tryz.prog.info? 3 = some q ∧ q.size = 1 := size_mk' (by kernel_rfl)
theorem sc3 : Scalar Tryz.prog 3 := ⟨(.int .i64),by kernel_rfl,trivial⟩
theorem si3 : SizeIs Tryz.prog 3 1 8 := sizeIs_mk (by kernel_rfl)
theorem el76 : ElemAt Tryz.prog 76 3 1 [(.int .i64 0)] := elemAt_mk (zv := (.int .i64 0)) (by_ := 8) (by kernel_rfl) (by kernel_rfl) (by decide) (fun β => VRels.cons (.int _ _) (VRels.nil β)) rfl (by decide) rfl
theorem ext349 : ExtAt Tryz.prog 349 (Extern.SlicesOverlaps.overlaps #[76,76] #[4]) := ⟨Tryz.f349,Tryz.func349,by kernel_rfl,by kernel_rfl,by kernel_rfl,by kernel_rfl⟩
theorem tu84 : Tryz.prog.underlying 84 = some (.slice 44) := by kernel_rfl
theorem si44 : SizeIs Tryz.prog 44 3 16 := sizeIs_mk (by kernel_rfl)
theorem el84 : ElemAt Tryz.prog 84 44 3 [(.int .i64 0),(.bool false),(.bool false)] := elemAt_mk (zv := (.agg #[(.int .i64 0),(.bool false),(.bool false)])) (by_ := 16) (by kernel_rfl) (by kernel_rfl) (by decide) (fun β => VRels.cons (.int _ _) (VRels.cons (.bool _) (VRels.cons (.bool _) (VRels.nil β)))) rfl (by decide) rfl
theorem tu128 : Tryz.prog.underlying 128 = some (.slice 127) := by kernel_rfl
theorem sz127 : ∃ q,Tryz.prog.info? 127 = some q ∧ q.size = 2 := size_mk' (by kernel_rfl)
theorem ia127 : IsAgg Tryz.prog 127 2 := isAgg_mk2 (by kernel_rfl) (by kernel_rfl)
theorem si127 : SizeIs Tryz.prog 127 2 24 := sizeIs_mk (by kernel_rfl)
theorem el128 : ElemAt Tryz.prog 128 127 2 [(.str []),(.int .i64 0)] := elemAt_mk (zv := (.agg #[(.string ⟨#[]⟩),(.int .i64 0)])) (by_ := 24) (by kernel_rfl) (by kernel_rfl) (by decide) (fun β => VRels.cons (.str []) (VRels.cons (.int _ _) (VRels.nil β))) rfl (by decide) rfl
theorem ext479 : ExtAt Tryz.prog 479 (Extern.SlicesOverlaps.overlaps #[128,128] #[4]) := ⟨Tryz.f479,Tryz.func479,by kernel_rfl,by kernel_rfl,by kernel_rfl,by kernel_rfl⟩
theorem tu117 : Tryz.prog.underlying 117 = some (.slice 116) := by kernel_rfl
theorem sz116 : ∃ q,Tryz.prog.info? 116 = some q ∧ q.size = 2 := size_mk' (by kernel_rfl)
theorem ia116 : IsAgg Tryz.prog 116 2 := isAgg_mk2 (by kernel_rfl) (by kernel_rfl)
theorem si116 : SizeIs Tryz.prog 116 2 24 := sizeIs_mk (by kernel_rfl)
theorem el117 : ElemAt Tryz.prog 117 116 2 [(.str []),(.ptr none)] := elemAt_mk (zv := (.agg #[(.string ⟨#[]⟩),(.pointer none)])) (by_ := 24) (by kernel_rfl) (by kernel_rfl) (by decide) (fun β => VRels.cons (.str []) (VRels.cons (.ptrNil) (VRels.nil β))) rfl (by decide) rfl
theorem ext484 : ExtAt Tryz.prog 484 (Extern.SlicesOverlaps.overlaps #[117,117] #[4]) := ⟨Tryz.f484,Tryz.func484,by kernel_rfl,by kernel_rfl,by kernel_rfl,by kernel_rfl⟩
theorem sz44 : ∃ q,Tryz.prog.info? 44 = some q ∧ q.size = 3 := size_mk' (by kernel_rfl)
theorem ia44 : IsAgg Tryz.prog 44 3 := isAgg_mk2 (by kernel_rfl) (by kernel_rfl)
theorem ext486 : ExtAt Tryz.prog 486 (Extern.SlicesOverlaps.overlaps #[84,84] #[4]) := ⟨Tryz.f486,Tryz.func486,by kernel_rfl,by kernel_rfl,by kernel_rfl,by kernel_rfl⟩
theorem tu30 : Tryz.prog.underlying 30 = some (.slice 9) := by kernel_rfl
theorem si9 : SizeIs Tryz.prog 9 1 16 := sizeIs_mk (by kernel_rfl)
theorem el30 : ElemAt Tryz.prog 30 9 1 [(.str [])] := elemAt_mk (zv := (.string ⟨#[]⟩)) (by_ := 16) (by kernel_rfl) (by kernel_rfl) (by decide) (fun β => VRels.cons (.str []) (VRels.nil β)) rfl (by decide) rfl
theorem sz9 : ∃ q,Tryz.prog.info? 9 = some q ∧ q.size = 1 := size_mk' (by kernel_rfl)
theorem sc9 : Scalar Tryz.prog 9 := ⟨.string,by kernel_rfl,trivial⟩
theorem ext512 : ExtAt Tryz.prog 512 (Extern.SlicesOverlaps.overlaps #[30,30] #[4]) := ⟨Tryz.f512,Tryz.func512,by kernel_rfl,by kernel_rfl,by kernel_rfl,by kernel_rfl⟩
namespace valid_letter
theorem at_ : FnAt Tryz.prog 143 Tryz.f143 := ⟨Tryz.func143,by kernel_rfl⟩
noncomputable def d0 := (Tryz.f143.body).getD .skip
noncomputable def r1 := kR (kA d0)
noncomputable def r3 := kR (kA (kB d0))
noncomputable def c4 : Code := .ret
noncomputable def c0 : Code := .seq (.region 0 r1 false) (.seq (.region 1 r3 false) c4)
theorem body : Tryz.f143.body = some c0 := by kernel_rfl
section
variable {base : Nat} {W0 : Env} {β0 : Bt}
def J1  (y16 : Bool) : Option (Bool) :=
 some y16
theorem J1_snd   {y16 : Bool} {S : HS} {p : Bool} {Ga Gb Gc Gd Ge Gf Gg Gh Gi Gj Gk Gl Gm Gn Go Gp : HV} (h : J1  y16 = some p) : HRun Tryz.prog base W0 β0 143 none [.inRegion r3 [14],.code c4] ⟨[Ga,Gb,Gc,Gd,Ge,Gf,Gg,Gh,Gi,Gj,Gk,Gl,Gm,Gn,Go,Gp,(.bool y16)],[]⟩ S (fun v S1 => v = (.bool p) ∧ S1 = S) := by
 unfold J1 at h
 refine qS 2 rfl (oA · rfl) (rE ?_)
 try dsimp only [w0,w1,w2,w3]
 cases h
 exact q_ret rfl at_.at_ rfl (res1 rfl rfl) ⟨rfl,rfl⟩
def J2  (y9 : Bool) (y15 : Bool) : Option (Bool) :=
 (if y9 = true then
 J1 true else
 J1 y15)
theorem J2_snd   {y9 : Bool} {y15 : Bool} {S : HS} {p : Bool} {Ga Gb Gc Gd Ge Gf Gg Gh Gi Gk Gl Gm Gn Go Gq : HV} (h : J2  y9 y15 = some p) : HRun Tryz.prog base W0 β0 143 none [.inRegion r3 [13,14],.code c4] ⟨[Ga,Gb,Gc,Gd,Ge,Gf,Gg,Gh,Gi,(.bool y9),Gk,Gl,Gm,Gn,Go,(.bool y15),Gq],[]⟩ S (fun v S1 => v = (.bool p) ∧ S1 = S) := by
 unfold J2 at h
 rcases ifc h with ⟨hc4,h⟩ | ⟨hc4,h⟩
 ·refine qS 16 rfl (ok_pick_tt · (.tmp rfl) hc4 (.bool _)) ?_
  try dsimp only [w0,w1,w2,w3]
  exact J1_snd  h
 ·refine qS 16 rfl (ok_pick_ff · (.tmp rfl) (bfalse hc4) (.tmp rfl)) ?_
  try dsimp only [w0,w1,w2,w3]
  exact J1_snd  h
def J0  (y0 : Int) (y8 : Bool) : Option (Bool) :=
 (if y8 = true then
 J1 true else
 (if y0 ≥ 65 then
 J2 y8 (decide (y0 ≤ 90)) else
 J2 y8 false))
theorem J0_snd   {y0 : Int} {y8 : Bool} {S : HS} {p : Bool} {Gb Gc Gd Ge Gf Gg Gh Gj Gk Gl Gm Gn Go Gp Gq : HV} (h : J0  y0 y8 = some p) : HRun Tryz.prog base W0 β0 143 none [.inRegion r3 [6,7,8,9,10,11,12,13,14],.code c4] ⟨[(.int .i64 y0),Gb,Gc,Gd,Ge,Gf,Gg,Gh,(.bool y8),Gj,Gk,Gl,Gm,Gn,Go,Gp,Gq],[]⟩ S (fun v S1 => v = (.bool p) ∧ S1 = S) := by
 unfold J0 at h
 refine qS 9 rfl (oM · rfl) ?_
 rcases ifc h with ⟨hc2,h⟩ | ⟨hc2,h⟩
 ·refine q_skip (dst := some 10) (t := 9) rfl rfl rfl hc2 ?_
  try dsimp only [w0,w1,w2,w3]
  refine q_skip (dst := some 11) (t := 9) rfl rfl rfl hc2 (q_skip (dst := some 12) (t := 9) rfl rfl rfl hc2 (q_skip_u (dst := some 13) (t := 12) rfl rfl rfl (q_skip_u (dst := some 14) (t := 12) rfl rfl rfl ?_)))
  try dsimp only [w0,w1,w2,w3]
  refine q_skip (dst := some 15) (t := 9) rfl rfl rfl hc2 (qS 16 rfl (ok_pick_tt · (.tmp rfl) hc2 (.bool _)) ?_)
  try dsimp only [w0,w1,w2,w3]
  exact J1_snd  h
 ·refine qG 9 10 rfl (bfalse hc2) (oM · rfl) ?_
  try dsimp only [w0,w1,w2,w3]
  refine qG 9 11 rfl (bfalse hc2) (oC · rfl rfl) (qG 9 12 rfl (bfalse hc2) (oM · rfl) ?_)
  rcases ifc h with ⟨hc3,h⟩ | ⟨hc3,h⟩
  ·refine qG 12 13 rfl (decide_eq_true hc3) (oM · rfl) (qG 12 14 rfl (decide_eq_true hc3) (oC · rfl rfl) ?_)
   try dsimp only [w0,w1,w2,w3]
   refine qG 9 15 rfl (bfalse hc2) (ok_pick_tt · (.tmp rfl) (decide_eq_true hc3) (.tmp rfl)) ?_
   try dsimp only [w0,w1,w2,w3]
   exact J2_snd  h
  ·refine q_skip (dst := some 13) (t := 12) rfl rfl rfl (decide_eq_false hc3) (q_skip (dst := some 14) (t := 12) rfl rfl rfl (decide_eq_false hc3) ?_)
   try dsimp only [w0,w1,w2,w3]
   refine qG 9 15 rfl (bfalse hc2) (ok_pick_ff · (.tmp rfl) (decide_eq_false hc3) (.bool _)) ?_
   try dsimp only [w0,w1,w2,w3]
   exact J2_snd  h
def f (x0 : Int) : Option (Bool) :=
 (if x0 ≥ 97 then
 J0 x0 (decide (x0 ≤ 122)) else
 J0 x0 false)
theorem snd {x0 : Int} {S : HS}  {p : Bool} (h : f x0 = some p) : HCall Tryz.prog base W0 β0 143 [(.int .i64 x0)] S (fun v S1 => v = (.bool p) ∧ S1 = S) := by
 unfold f at h
 refine HCall.of_run at_.at_ body ?_
 show HRun Tryz.prog base W0 β0 143 none [.code c0] ⟨[(.int .i64 x0),τ,τ,τ,τ,τ,τ,τ,τ,τ,τ,τ,τ,τ,τ,τ,τ],[]⟩ S _
 refine qQ rfl (qR rfl rfl (qS 2 rfl (ok_assign · (.bool _)) (rE ?_)))
 try dsimp only [w0,w1,w2,w3]
 refine qQ rfl (qR rfl rfl (qS 3 rfl (oM · rfl) (qS 4 rfl (oC · rfl rfl) (qS 5 rfl (oM · rfl) ?_))))
 rcases ifc h with ⟨hc1,h⟩ | ⟨hc1,h⟩
 ·refine qG 5 6 rfl (decide_eq_true hc1) (oM · rfl) ?_
  try dsimp only [w0,w1,w2,w3]
  refine qG 5 7 rfl (decide_eq_true hc1) (oC · rfl rfl) (qS 8 rfl (ok_pick_tt · (.tmp rfl) (decide_eq_true hc1) (.tmp rfl)) ?_)
  try dsimp only [w0,w1,w2,w3]
  exact J0_snd  h
 ·refine q_skip (dst := some 6) (t := 5) rfl rfl rfl (decide_eq_false hc1) ?_
  try dsimp only [w0,w1,w2,w3]
  refine q_skip (dst := some 7) (t := 5) rfl rfl rfl (decide_eq_false hc1) (qS 8 rfl (ok_pick_ff · (.tmp rfl) (decide_eq_false hc1) (.bool _)) ?_)
  try dsimp only [w0,w1,w2,w3]
  exact J0_snd  h
end
end valid_letter
namespace internal_stringslite_IndexByte
theorem at_ : FnAt Tryz.prog 163 Tryz.f163 := ⟨Tryz.func163,by kernel_rfl⟩
noncomputable def d0 := (Tryz.f163.body).getD .skip
noncomputable def r1 := kR (kA d0)
noncomputable def r3 := kR (kA (kB d0))
noncomputable def c0 : Code := .seq (.region 0 r1 false) (.seq (.region 1 r3 false) .ret)
theorem body : Tryz.f163.body = some c0 := by kernel_rfl
section
variable {base : Nat} {W0 : Env} {β0 : Bt}
def f (x0 : (List UInt8)) (x1 : Int) : Option (Int) :=
 some (bidx x0 x1)
theorem snd {x0 : (List UInt8)} {x1 : Int} {S : HS}  {p : Int} (h : f x0 x1 = some p) : HCall Tryz.prog base W0 β0 163 [(.str x0),(.int .u8 x1)] S (fun v S1 => v = (.int .i64 p) ∧ S1 = S) := by
 unfold f at h
 refine HCall.of_run at_.at_ body ?_
 show HRun Tryz.prog base W0 β0 163 none [.code c0] ⟨[(.str x0),(.int .u8 x1),τ,τ,τ,τ,τ,τ],[]⟩ S _
 refine qQ rfl (qR rfl rfl (qS 4 rfl (ok_assign · (.int _ _)) (rE ?_)))
 try dsimp only [w0,w1,w2,w3]
 refine qQ rfl (qR rfl rfl (qS 5 rfl (oM · rfl) (qS 6 rfl (oM · rfl) (qS 7 rfl (ok_idxByte · ext213 (.tmp rfl) (.tmp rfl)) (qS 4 rfl (oA · rfl) (rE ?_))))))
 try dsimp only [w0,w1,w2,w3]
 cases h
 exact q_ret rfl at_.at_ rfl (res1 rfl rfl) ⟨rfl,rfl⟩
end
end internal_stringslite_IndexByte
namespace strings_IndexByte
theorem at_ : FnAt Tryz.prog 101 Tryz.f101 := ⟨Tryz.func101,by kernel_rfl⟩
noncomputable def d0 := (Tryz.f101.body).getD .skip
noncomputable def r1 := kR (kA d0)
noncomputable def r3 := kR (kA (kB d0))
noncomputable def c0 : Code := .seq (.region 0 r1 false) (.seq (.region 1 r3 false) .ret)
theorem body : Tryz.f101.body = some c0 := by kernel_rfl
section
variable {base : Nat} {W0 : Env} {β0 : Bt}
def f (x0 : (List UInt8)) (x1 : Int) : Option (Int) :=
 (Option.bind (internal_stringslite_IndexByte.f x0 x1) fun p1 =>
 some p1)
theorem snd {x0 : (List UInt8)} {x1 : Int} {S : HS}  {p : Int} (h : f x0 x1 = some p) : HCall Tryz.prog base W0 β0 101 [(.str x0),(.int .u8 x1)] S (fun v S1 => v = (.int .i64 p) ∧ S1 = S) := by
 unfold f at h
 refine HCall.of_run at_.at_ body ?_
 show HRun Tryz.prog base W0 β0 101 none [.code c0] ⟨[(.str x0),(.int .u8 x1),τ,τ,τ,τ,τ,τ],[]⟩ S _
 refine qQ rfl (qR rfl rfl (qS 4 rfl (ok_assign · (.int _ _)) (rE ?_)))
 try dsimp only [w0,w1,w2,w3]
 obtain ⟨p1,hp1,h⟩ := bindo h
 refine qQ rfl (qR rfl rfl (qS 5 rfl (oM · rfl) (qS 6 rfl (oM · rfl) (q_call (dst := some 7) rfl (.func _) (.cons (.tmp rfl) (.cons (.tmp rfl) Evs.nil)) (HInv.static internal_stringslite_IndexByte.at_ internal_stringslite_IndexByte.body (internal_stringslite_IndexByte.snd  hp1)) ?_))))
 rintro _ _ ⟨rfl,rfl⟩
 refine qS 4 rfl (oA · rfl) (rE ?_)
 try dsimp only [w0,w1,w2,w3]
 cases h
 exact q_ret rfl at_.at_ rfl (res1 rfl rfl) ⟨rfl,rfl⟩
end
end strings_IndexByte
namespace valid_has
theorem at_ : FnAt Tryz.prog 144 Tryz.f144 := ⟨Tryz.func144,by kernel_rfl⟩
noncomputable def d0 := (Tryz.f144.body).getD .skip
noncomputable def r1 := kR (kA d0)
noncomputable def r3 := kR (kA (kB d0))
noncomputable def c0 : Code := .seq (.region 0 r1 false) (.seq (.region 1 r3 false) .ret)
theorem body : Tryz.f144.body = some c0 := by kernel_rfl
section
variable {base : Nat} {W0 : Env} {β0 : Bt}
def f (x0 : (List UInt8)) (x1 : Int) : Option (Bool) :=
 (Option.bind (strings_IndexByte.f x0 (w8 x1)) fun p1 =>
 some (decide (p1 ≥ 0)))
theorem snd {x0 : (List UInt8)} {x1 : Int} {S : HS}  {p : Bool} (h : f x0 x1 = some p) : HCall Tryz.prog base W0 β0 144 [(.str x0),(.int .i64 x1)] S (fun v S1 => v = (.bool p) ∧ S1 = S) := by
 unfold f at h
 refine HCall.of_run at_.at_ body ?_
 show HRun Tryz.prog base W0 β0 144 none [.code c0] ⟨[(.str x0),(.int .i64 x1),τ,τ,τ,τ,τ,τ,τ,τ],[]⟩ S _
 refine qQ rfl (qR rfl rfl (qS 4 rfl (ok_assign · (.bool _)) (rE ?_)))
 try dsimp only [w0,w1,w2,w3]
 obtain ⟨p1,hp1,h⟩ := bindo h
 refine qQ rfl (qR rfl rfl (qS 5 rfl (oM · rfl) (qS 6 rfl (oM · rfl) (qS 7 rfl (ok_conv_int · tu3 tu5 (.tmp rfl)) (q_call (dst := some 8) rfl (.func _) (.cons (.tmp rfl) (.cons (.tmp rfl) Evs.nil)) (HInv.static strings_IndexByte.at_ strings_IndexByte.body (strings_IndexByte.snd  hp1)) ?_)))))
 rintro _ _ ⟨rfl,rfl⟩
 try dsimp only [w0,w1,w2,w3]
 refine qS 9 rfl (oC · rfl rfl) (qS 4 rfl (oA · rfl) (rE ?_))
 try dsimp only [w0,w1,w2,w3]
 cases h
 exact q_ret rfl at_.at_ rfl (res1 rfl rfl) ⟨rfl,rfl⟩
end
end valid_has
namespace valid_kinds
theorem at_ : FnAt Tryz.prog 78 Tryz.f78 := ⟨Tryz.func78,by kernel_rfl⟩
noncomputable def d0 := (Tryz.f78.body).getD .skip
noncomputable def r1 := kR (kA d0)
noncomputable def r3 := kR (kA (kB d0))
noncomputable def d5 := kA (kB (kB d0))
noncomputable def r6 := kR (kA d5)
noncomputable def d9 := kA (kA (kB d5))
noncomputable def r10 := kR (kA d9)
noncomputable def d16 := kA (kB (kB d9))
noncomputable def r18 := kR (kA (kA d16))
noncomputable def r20 := kR (kA (kB (kA d16)))
noncomputable def d21 := kB (kB (kA d16))
noncomputable def r22 := kR (kA d21)
noncomputable def r25 := kR (kA (kA (kB d21)))
noncomputable def r27 := kR (kA (kB (kA (kB d21))))
noncomputable def r31 := kR (kA (kA (kB (kB d21))))
noncomputable def r33 := kR (kA (kB (kA (kB (kB d21)))))
noncomputable def d35 := kB (kB (kB d21))
noncomputable def r37 := kR (kA (kA d35))
noncomputable def r39 := kR (kA (kB (kA d35)))
noncomputable def r43 := kR (kA (kA (kB d35)))
noncomputable def r45 := kR (kA (kB (kA (kB d35))))
noncomputable def r49 := kR (kA (kA (kB (kB d35))))
noncomputable def r51 := kR (kA (kB (kA (kB (kB d35)))))
noncomputable def d53 := kB (kB (kB d35))
noncomputable def r55 := kR (kA (kA d53))
noncomputable def r57 := kR (kA (kB (kA d53)))
noncomputable def r60 := kR (kA (kB d53))
noncomputable def r62 := kR (kA (kB (kB d53)))
noncomputable def r64 := kR (kB (kB (kB d9)))
noncomputable def r66 := kR (kA (kB (kB (kB d0))))
noncomputable def c65 : Code := .seq (.region 22 r66 false) .ret
noncomputable def c64 : Code := .region 21 r64 false
noncomputable def c59 : Code := .seq (.region 19 r60 false) (.cond (.tmp 86) (.region 20 r62 false) .skip)
noncomputable def c56 : Code := .cond (.tmp 78) (.region 18 r57 false) .skip
noncomputable def c53 : Code := .seq (.seq (.region 17 r55 false) c56) c59
noncomputable def c50 : Code := .cond (.tmp 68) (.region 16 r51 false) .skip
noncomputable def c47 : Code := .seq (.seq (.region 15 r49 false) c50) c53
noncomputable def c44 : Code := .cond (.tmp 54) (.region 14 r45 false) .skip
noncomputable def c41 : Code := .seq (.seq (.region 13 r43 false) c44) c47
noncomputable def c35 : Code := .seq (.seq (.region 11 r37 false) (.cond (.tmp 43) (.region 12 r39 false) .skip)) c41
noncomputable def c32 : Code := .cond (.tmp 35) (.region 10 r33 false) .skip
noncomputable def c29 : Code := .seq (.seq (.region 9 r31 false) c32) c35
noncomputable def c26 : Code := .cond (.tmp 25) (.region 8 r27 false) .skip
noncomputable def c23 : Code := .seq (.seq (.region 7 r25 false) c26) c29
noncomputable def c21 : Code := .seq (.region 6 r22 false) c23
noncomputable def c9 : Code := .seq (.region 3 r10 false) (.seq (.cond (.tmp 6) .skip (.exit 0)) (.seq (.block 1 (.seq (.region 4 r18 false) (.seq (.region 5 r20 false) c21))) c64))
noncomputable def c0 : Code := .seq (.region 0 r1 false) (.seq (.region 1 r3 false) (.seq (.seq (.region 2 r6 false) (.block 0 (.loop c9))) c65))
theorem body : Tryz.f78.body = some c0 := by kernel_rfl
section
variable {base : Nat} {W0 : Env} {β0 : Bt}
def J15 (k : Nat) (rec0 : (Option HA) → (Option HA) → Int → HS → Option (((List HV)) × HS)) (y0 : (Option HA)) (y1 : (Option HA)) (y5 : Int) (S : HS) : Option (((List HV)) × HS) :=
 rec0 y0 y1 (w64 (y5 + 1)) S
theorem J15_snd {k : Nat} {rec0 : (Option HA) → (Option HA) → Int → HS → Option (((List HV)) × HS)} (hrec0 : ∀ ⦃y0 : (Option HA)⦄ ⦃y1 : (Option HA)⦄ ⦃y5 : Int⦄ ⦃S : HS⦄ ⦃p : ((List HV)) × HS⦄ ⦃Gc Gd Ge Gg Gh Gi Gj Gk Gl Gm Gn Go Gp Gq Gr Gs Gt Gu Gv Gw Gx Gy Gz Ka Kb Kc Kd Ke Kf Kg Kh Ki Kj Kk Kl Km Kn Ko Kp Kq Kr Ks Kt Ku Kv Kw Kx Ky Kz Ma Mb Mc Md Me Mf Mg Mh Mi Mj Mk Ml Mm Mn Mo Mp Mq Mr Ms Mt Mu Mv Mw Mx My Mz Na Nb Nc Nd Ne Nf Ng Nh Ni Nj Nk Nl Nm Nn No Np : HV⦄,rec0 y0 y1 y5 S = some p → HRun Tryz.prog base W0 β0 78 none [.inLoop c9,.inBlock 0,.code c65] ⟨[(.ptr y0),(.ptr y1),Gc,Gd,Ge,(.int .i64 y5),Gg,Gh,Gi,Gj,Gk,Gl,Gm,Gn,Go,Gp,Gq,Gr,Gs,Gt,Gu,Gv,Gw,Gx,Gy,Gz,Ka,Kb,Kc,Kd,Ke,Kf,Kg,Kh,Ki,Kj,Kk,Kl,Km,Kn,Ko,Kp,Kq,Kr,Ks,Kt,Ku,Kv,Kw,Kx,Ky,Kz,Ma,Mb,Mc,Md,Me,Mf,Mg,Mh,Mi,Mj,Mk,Ml,Mm,Mn,Mo,Mp,Mq,Mr,Ms,Mt,Mu,Mv,Mw,Mx,My,Mz,Na,Nb,Nc,Nd,Ne,Nf,Ng,Nh,Ni,Nj,Nk,Nl,Nm,Nn,No,Np],[]⟩ S (fun v S1 => v = (.agg p.1) ∧ S1 = p.2)) {y0 : (Option HA)} {y1 : (Option HA)} {y5 : Int} {S : HS} {p : ((List HV)) × HS} {Gc Gd Ge Gg Gh Gi Gj Gk Gl Gm Gn Go Gp Gq Gr Gs Gt Gu Gv Gw Gx Gy Gz Ka Kb Kc Kd Ke Kf Kg Kh Ki Kj Kk Kl Km Kn Ko Kp Kq Kr Ks Kt Ku Kv Kw Kx Ky Kz Ma Mb Mc Md Me Mf Mg Mh Mi Mj Mk Ml Mm Mn Mo Mp Mq Mr Ms Mt Mu Mv Mw Mx My Mz Na Nb Nc Nd Ne Nf Ng Nh Ni Nj Nk Nl Nm Nn No Np : HV} (h : J15 k rec0 y0 y1 y5 S = some p) : HRun Tryz.prog base W0 β0 78 none [.code c64,.inLoop c9,.inBlock 0,.code c65] ⟨[(.ptr y0),(.ptr y1),Gc,Gd,Ge,(.int .i64 y5),Gg,Gh,Gi,Gj,Gk,Gl,Gm,Gn,Go,Gp,Gq,Gr,Gs,Gt,Gu,Gv,Gw,Gx,Gy,Gz,Ka,Kb,Kc,Kd,Ke,Kf,Kg,Kh,Ki,Kj,Kk,Kl,Km,Kn,Ko,Kp,Kq,Kr,Ks,Kt,Ku,Kv,Kw,Kx,Ky,Kz,Ma,Mb,Mc,Md,Me,Mf,Mg,Mh,Mi,Mj,Mk,Ml,Mm,Mn,Mo,Mp,Mq,Mr,Ms,Mt,Mu,Mv,Mw,Mx,My,Mz,Na,Nb,Nc,Nd,Ne,Nf,Ng,Nh,Ni,Nj,Nk,Nl,Nm,Nn,No,Np],[]⟩ S (fun v S1 => v = (.agg p.1) ∧ S1 = p.2) := by
 unfold J15 at h
 refine qR rfl rfl (qS 92 rfl (oC · rfl rfl) (qS 5 rfl (oM · rfl) (rE ?_)))
 try dsimp only [w0,w1,w2,w3]
 try dsimp only [w0,w1,w2,w3]
 exact hrec0 h
def J14 (k : Nat) (rec0 : (Option HA) → (Option HA) → Int → HS → Option (((List HV)) × HS)) (y0 : (Option HA)) (y1 : (Option HA)) (y2 : Int) (y5 : Int) (S : HS) : Option (((List HV)) × HS) :=
 (Option.bind (valid_has.f ([0,10,13] : List UInt8) y2) fun p58 =>
 (if (!p58) = true then
 (Option.bind (y1) fun p60 =>
 (if 0 ≤ (y2 : Int) ∧ (y2 : Int) < 256 then
 (Option.bind (HS.ldI S .u16 (HA.fld p60 (Int.toNat y2))) fun p62 =>
 (Option.bind (y1) fun p63 =>
 (if 0 ≤ (y2 : Int) ∧ (y2 : Int) < 256 then
 (Option.bind (HS.sets S (HA.fld p63 (Int.toNat y2)) [(.int .u16 (ior .u16 p62 64))]) fun p65 =>
 J15 k rec0 y0 y1 y5 p65) else none))) else none)) else
 J15 k rec0 y0 y1 y5 S))
theorem J14_snd {k : Nat} {rec0 : (Option HA) → (Option HA) → Int → HS → Option (((List HV)) × HS)} (hrec0 : ∀ ⦃y0 : (Option HA)⦄ ⦃y1 : (Option HA)⦄ ⦃y5 : Int⦄ ⦃S : HS⦄ ⦃p : ((List HV)) × HS⦄ ⦃Gc Gd Ge Gg Gh Gi Gj Gk Gl Gm Gn Go Gp Gq Gr Gs Gt Gu Gv Gw Gx Gy Gz Ka Kb Kc Kd Ke Kf Kg Kh Ki Kj Kk Kl Km Kn Ko Kp Kq Kr Ks Kt Ku Kv Kw Kx Ky Kz Ma Mb Mc Md Me Mf Mg Mh Mi Mj Mk Ml Mm Mn Mo Mp Mq Mr Ms Mt Mu Mv Mw Mx My Mz Na Nb Nc Nd Ne Nf Ng Nh Ni Nj Nk Nl Nm Nn No Np : HV⦄,rec0 y0 y1 y5 S = some p → HRun Tryz.prog base W0 β0 78 none [.inLoop c9,.inBlock 0,.code c65] ⟨[(.ptr y0),(.ptr y1),Gc,Gd,Ge,(.int .i64 y5),Gg,Gh,Gi,Gj,Gk,Gl,Gm,Gn,Go,Gp,Gq,Gr,Gs,Gt,Gu,Gv,Gw,Gx,Gy,Gz,Ka,Kb,Kc,Kd,Ke,Kf,Kg,Kh,Ki,Kj,Kk,Kl,Km,Kn,Ko,Kp,Kq,Kr,Ks,Kt,Ku,Kv,Kw,Kx,Ky,Kz,Ma,Mb,Mc,Md,Me,Mf,Mg,Mh,Mi,Mj,Mk,Ml,Mm,Mn,Mo,Mp,Mq,Mr,Ms,Mt,Mu,Mv,Mw,Mx,My,Mz,Na,Nb,Nc,Nd,Ne,Nf,Ng,Nh,Ni,Nj,Nk,Nl,Nm,Nn,No,Np],[]⟩ S (fun v S1 => v = (.agg p.1) ∧ S1 = p.2)) {y0 : (Option HA)} {y1 : (Option HA)} {y2 : Int} {y5 : Int} {S : HS} {p : ((List HV)) × HS} {Gd Ge Gg Gh Gi Gj Gk Gl Gm Gn Go Gp Gq Gr Gs Gt Gu Gv Gw Gx Gy Gz Ka Kb Kc Kd Ke Kf Kg Kh Ki Kj Kk Kl Km Kn Ko Kp Kq Kr Ks Kt Ku Kv Kw Kx Ky Kz Ma Mb Mc Md Me Mf Mg Mh Mi Mj Mk Ml Mm Mn Mo Mp Mq Mr Ms Mt Mu Mv Mw Mx My Mz Na Nb Nc Nd Ne Nf Ng Nh Ni Nj Nk Nl Nm Nn No Np : HV} (h : J14 k rec0 y0 y1 y2 y5 S = some p) : HRun Tryz.prog base W0 β0 78 none [.code c59,.inBlock 1,.code c64,.inLoop c9,.inBlock 0,.code c65] ⟨[(.ptr y0),(.ptr y1),(.int .i64 y2),Gd,Ge,(.int .i64 y5),Gg,Gh,Gi,Gj,Gk,Gl,Gm,Gn,Go,Gp,Gq,Gr,Gs,Gt,Gu,Gv,Gw,Gx,Gy,Gz,Ka,Kb,Kc,Kd,Ke,Kf,Kg,Kh,Ki,Kj,Kk,Kl,Km,Kn,Ko,Kp,Kq,Kr,Ks,Kt,Ku,Kv,Kw,Kx,Ky,Kz,Ma,Mb,Mc,Md,Me,Mf,Mg,Mh,Mi,Mj,Mk,Ml,Mm,Mn,Mo,Mp,Mq,Mr,Ms,Mt,Mu,Mv,Mw,Mx,My,Mz,Na,Nb,Nc,Nd,Ne,Nf,Ng,Nh,Ni,Nj,Nk,Nl,Nm,Nn,No,Np],[]⟩ S (fun v S1 => v = (.agg p.1) ∧ S1 = p.2) := by
 unfold J14 at h
 obtain ⟨p58,hp58,h⟩ := bindo h
 refine qQ rfl (qR rfl rfl (qS 84 rfl (oM · rfl) (q_call (dst := some 85) rfl (.func _) (.cons (.str _) (.cons (.tmp rfl) Evs.nil)) (HInv.static valid_has.at_ valid_has.body (valid_has.snd  hp58)) ?_)))
 rintro _ _ ⟨rfl,rfl⟩
 refine qS 86 rfl (ok_not · (.tmp rfl)) (rE ?_)
 try dsimp only [w0,w1,w2,w3]
 rcases ifc h with ⟨hc59,h⟩ | ⟨hc59,h⟩
 ·obtain ⟨p60,hp60,h⟩ := bindo h
  obtain ⟨hg61,h⟩ := gd h
  obtain ⟨p62,hp62,h⟩ := bindo h
  refine q_cond_t rfl (.tmp rfl) hc59 (qR rfl rfl (qS 87 rfl (oM · rfl) (qS 88 rfl (ok_indexAddr_arr · ta156 sz155 (.tmp rfl) hp60 (.tmp rfl) hg61) (qS 89 rfl (oL · sc155 rfl rfl (ldI_out hp62)) (qS 90 rfl (oC · rfl rfl) ?_)))))
  try dsimp only [w0,w1,w2,w3]
  obtain ⟨p63,hp63,h⟩ := bindo h
  obtain ⟨hg64,h⟩ := gd h
  obtain ⟨p65,hp65,h⟩ := bindo h
  refine qS 91 rfl (ok_indexAddr_arr · ta156 sz155 (.tmp rfl) hp63 (.tmp rfl) hg64) (qN rfl (ok_store_s (v := (.int .u16 (ior .u16 p62 64))) · sz155 (.tmp rfl) rfl (.tmp rfl) rfl hp65) (rE ?_))
  try dsimp only [w0,w1,w2,w3]
  refine hr_inBlock ?_
  try dsimp only [w0,w1,w2,w3]
  exact J15_snd hrec0 h
 ·refine q_cond_f rfl (.tmp rfl) (bfalse hc59) (q_skipc rfl (hr_inBlock ?_))
  try dsimp only [w0,w1,w2,w3]
  exact J15_snd hrec0 h
def J13 (k : Nat) (rec0 : (Option HA) → (Option HA) → Int → HS → Option (((List HV)) × HS)) (y0 : (Option HA)) (y1 : (Option HA)) (y2 : Int) (y5 : Int) (y78 : Bool) (S : HS) : Option (((List HV)) × HS) :=
 (if y78 = true then
 (Option.bind (y1) fun p52 =>
 (if 0 ≤ (y2 : Int) ∧ (y2 : Int) < 256 then
 (Option.bind (HS.ldI S .u16 (HA.fld p52 (Int.toNat y2))) fun p54 =>
 (Option.bind (y1) fun p55 =>
 (if 0 ≤ (y2 : Int) ∧ (y2 : Int) < 256 then
 (Option.bind (HS.sets S (HA.fld p55 (Int.toNat y2)) [(.int .u16 (ior .u16 p54 32))]) fun p57 =>
 J14 k rec0 y0 y1 y2 y5 p57) else none))) else none)) else
 J14 k rec0 y0 y1 y2 y5 S)
theorem J13_snd {k : Nat} {rec0 : (Option HA) → (Option HA) → Int → HS → Option (((List HV)) × HS)} (hrec0 : ∀ ⦃y0 : (Option HA)⦄ ⦃y1 : (Option HA)⦄ ⦃y5 : Int⦄ ⦃S : HS⦄ ⦃p : ((List HV)) × HS⦄ ⦃Gc Gd Ge Gg Gh Gi Gj Gk Gl Gm Gn Go Gp Gq Gr Gs Gt Gu Gv Gw Gx Gy Gz Ka Kb Kc Kd Ke Kf Kg Kh Ki Kj Kk Kl Km Kn Ko Kp Kq Kr Ks Kt Ku Kv Kw Kx Ky Kz Ma Mb Mc Md Me Mf Mg Mh Mi Mj Mk Ml Mm Mn Mo Mp Mq Mr Ms Mt Mu Mv Mw Mx My Mz Na Nb Nc Nd Ne Nf Ng Nh Ni Nj Nk Nl Nm Nn No Np : HV⦄,rec0 y0 y1 y5 S = some p → HRun Tryz.prog base W0 β0 78 none [.inLoop c9,.inBlock 0,.code c65] ⟨[(.ptr y0),(.ptr y1),Gc,Gd,Ge,(.int .i64 y5),Gg,Gh,Gi,Gj,Gk,Gl,Gm,Gn,Go,Gp,Gq,Gr,Gs,Gt,Gu,Gv,Gw,Gx,Gy,Gz,Ka,Kb,Kc,Kd,Ke,Kf,Kg,Kh,Ki,Kj,Kk,Kl,Km,Kn,Ko,Kp,Kq,Kr,Ks,Kt,Ku,Kv,Kw,Kx,Ky,Kz,Ma,Mb,Mc,Md,Me,Mf,Mg,Mh,Mi,Mj,Mk,Ml,Mm,Mn,Mo,Mp,Mq,Mr,Ms,Mt,Mu,Mv,Mw,Mx,My,Mz,Na,Nb,Nc,Nd,Ne,Nf,Ng,Nh,Ni,Nj,Nk,Nl,Nm,Nn,No,Np],[]⟩ S (fun v S1 => v = (.agg p.1) ∧ S1 = p.2)) {y0 : (Option HA)} {y1 : (Option HA)} {y2 : Int} {y5 : Int} {y78 : Bool} {S : HS} {p : ((List HV)) × HS} {Gd Ge Gg Gh Gi Gj Gk Gl Gm Gn Go Gp Gq Gr Gs Gt Gu Gv Gw Gx Gy Gz Ka Kb Kc Kd Ke Kf Kg Kh Ki Kj Kk Kl Km Kn Ko Kp Kq Kr Ks Kt Ku Kv Kw Kx Ky Kz Ma Mb Mc Md Me Mf Mg Mh Mi Mj Mk Ml Mm Mn Mo Mp Mq Mr Ms Mt Mu Mv Mw Mx My Mz Nb Nc Nd Ne Nf Ng Nh Ni Nj Nk Nl Nm Nn No Np : HV} (h : J13 k rec0 y0 y1 y2 y5 y78 S = some p) : HRun Tryz.prog base W0 β0 78 none [.code c56,.code c59,.inBlock 1,.code c64,.inLoop c9,.inBlock 0,.code c65] ⟨[(.ptr y0),(.ptr y1),(.int .i64 y2),Gd,Ge,(.int .i64 y5),Gg,Gh,Gi,Gj,Gk,Gl,Gm,Gn,Go,Gp,Gq,Gr,Gs,Gt,Gu,Gv,Gw,Gx,Gy,Gz,Ka,Kb,Kc,Kd,Ke,Kf,Kg,Kh,Ki,Kj,Kk,Kl,Km,Kn,Ko,Kp,Kq,Kr,Ks,Kt,Ku,Kv,Kw,Kx,Ky,Kz,Ma,Mb,Mc,Md,Me,Mf,Mg,Mh,Mi,Mj,Mk,Ml,Mm,Mn,Mo,Mp,Mq,Mr,Ms,Mt,Mu,Mv,Mw,Mx,My,Mz,(.bool y78),Nb,Nc,Nd,Ne,Nf,Ng,Nh,Ni,Nj,Nk,Nl,Nm,Nn,No,Np],[]⟩ S (fun v S1 => v = (.agg p.1) ∧ S1 = p.2) := by
 unfold J13 at h
 rcases ifc h with ⟨hc51,h⟩ | ⟨hc51,h⟩
 ·obtain ⟨p52,hp52,h⟩ := bindo h
  obtain ⟨hg53,h⟩ := gd h
  obtain ⟨p54,hp54,h⟩ := bindo h
  refine q_cond_t rfl (.tmp rfl) hc51 (qR rfl rfl (qS 79 rfl (oM · rfl) (qS 80 rfl (ok_indexAddr_arr · ta156 sz155 (.tmp rfl) hp52 (.tmp rfl) hg53) (qS 81 rfl (oL · sc155 rfl rfl (ldI_out hp54)) (qS 82 rfl (oC · rfl rfl) ?_)))))
  try dsimp only [w0,w1,w2,w3]
  obtain ⟨p55,hp55,h⟩ := bindo h
  obtain ⟨hg56,h⟩ := gd h
  obtain ⟨p57,hp57,h⟩ := bindo h
  refine qS 83 rfl (ok_indexAddr_arr · ta156 sz155 (.tmp rfl) hp55 (.tmp rfl) hg56) (qN rfl (ok_store_s (v := (.int .u16 (ior .u16 p54 32))) · sz155 (.tmp rfl) rfl (.tmp rfl) rfl hp57) (rE ?_))
  try dsimp only [w0,w1,w2,w3]
  try dsimp only [w0,w1,w2,w3]
  exact J14_snd hrec0 h
 ·refine q_cond_f rfl (.tmp rfl) (bfalse hc51) (q_skipc rfl ?_)
  try dsimp only [w0,w1,w2,w3]
  exact J14_snd hrec0 h
def J12 (k : Nat) (rec0 : (Option HA) → (Option HA) → Int → HS → Option (((List HV)) × HS)) (y0 : (Option HA)) (y1 : (Option HA)) (y2 : Int) (y4 : Bool) (y5 : Int) (S : HS) : Option (((List HV)) × HS) :=
 (if y4 = true then
 J13 k rec0 y0 y1 y2 y5 (!decide (y2 = 44)) S else
 J13 k rec0 y0 y1 y2 y5 false S)
theorem J12_snd {k : Nat} {rec0 : (Option HA) → (Option HA) → Int → HS → Option (((List HV)) × HS)} (hrec0 : ∀ ⦃y0 : (Option HA)⦄ ⦃y1 : (Option HA)⦄ ⦃y5 : Int⦄ ⦃S : HS⦄ ⦃p : ((List HV)) × HS⦄ ⦃Gc Gd Ge Gg Gh Gi Gj Gk Gl Gm Gn Go Gp Gq Gr Gs Gt Gu Gv Gw Gx Gy Gz Ka Kb Kc Kd Ke Kf Kg Kh Ki Kj Kk Kl Km Kn Ko Kp Kq Kr Ks Kt Ku Kv Kw Kx Ky Kz Ma Mb Mc Md Me Mf Mg Mh Mi Mj Mk Ml Mm Mn Mo Mp Mq Mr Ms Mt Mu Mv Mw Mx My Mz Na Nb Nc Nd Ne Nf Ng Nh Ni Nj Nk Nl Nm Nn No Np : HV⦄,rec0 y0 y1 y5 S = some p → HRun Tryz.prog base W0 β0 78 none [.inLoop c9,.inBlock 0,.code c65] ⟨[(.ptr y0),(.ptr y1),Gc,Gd,Ge,(.int .i64 y5),Gg,Gh,Gi,Gj,Gk,Gl,Gm,Gn,Go,Gp,Gq,Gr,Gs,Gt,Gu,Gv,Gw,Gx,Gy,Gz,Ka,Kb,Kc,Kd,Ke,Kf,Kg,Kh,Ki,Kj,Kk,Kl,Km,Kn,Ko,Kp,Kq,Kr,Ks,Kt,Ku,Kv,Kw,Kx,Ky,Kz,Ma,Mb,Mc,Md,Me,Mf,Mg,Mh,Mi,Mj,Mk,Ml,Mm,Mn,Mo,Mp,Mq,Mr,Ms,Mt,Mu,Mv,Mw,Mx,My,Mz,Na,Nb,Nc,Nd,Ne,Nf,Ng,Nh,Ni,Nj,Nk,Nl,Nm,Nn,No,Np],[]⟩ S (fun v S1 => v = (.agg p.1) ∧ S1 = p.2)) {y0 : (Option HA)} {y1 : (Option HA)} {y2 : Int} {y4 : Bool} {y5 : Int} {S : HS} {p : ((List HV)) × HS} {Gd Gg Gh Gi Gj Gk Gl Gm Gn Go Gp Gq Gr Gs Gt Gu Gv Gw Gx Gy Gz Ka Kb Kc Kd Ke Kf Kg Kh Ki Kj Kk Kl Km Kn Ko Kp Kq Kr Ks Kt Ku Kv Kw Kx Ky Kz Ma Mb Mc Md Me Mf Mg Mh Mi Mj Mk Ml Mm Mn Mo Mp Mq Mr Ms Mt Mu Mv Mw Mx My Mz Na Nb Nc Nd Ne Nf Ng Nh Ni Nj Nk Nl Nm Nn No Np : HV} (h : J12 k rec0 y0 y1 y2 y4 y5 S = some p) : HRun Tryz.prog base W0 β0 78 none [.code c53,.inBlock 1,.code c64,.inLoop c9,.inBlock 0,.code c65] ⟨[(.ptr y0),(.ptr y1),(.int .i64 y2),Gd,(.bool y4),(.int .i64 y5),Gg,Gh,Gi,Gj,Gk,Gl,Gm,Gn,Go,Gp,Gq,Gr,Gs,Gt,Gu,Gv,Gw,Gx,Gy,Gz,Ka,Kb,Kc,Kd,Ke,Kf,Kg,Kh,Ki,Kj,Kk,Kl,Km,Kn,Ko,Kp,Kq,Kr,Ks,Kt,Ku,Kv,Kw,Kx,Ky,Kz,Ma,Mb,Mc,Md,Me,Mf,Mg,Mh,Mi,Mj,Mk,Ml,Mm,Mn,Mo,Mp,Mq,Mr,Ms,Mt,Mu,Mv,Mw,Mx,My,Mz,Na,Nb,Nc,Nd,Ne,Nf,Ng,Nh,Ni,Nj,Nk,Nl,Nm,Nn,No,Np],[]⟩ S (fun v S1 => v = (.agg p.1) ∧ S1 = p.2) := by
 unfold J12 at h
 refine qQ rfl (qQ rfl (qR rfl rfl (qS 74 rfl (oM · rfl) (qS 75 rfl (oM · rfl) ?_))))
 rcases ifc h with ⟨hc50,h⟩ | ⟨hc50,h⟩
 ·refine qG 75 76 rfl hc50 (oM · rfl) (qG 75 77 rfl hc50 (oC · rfl rfl) ?_)
  try dsimp only [w0,w1,w2,w3]
  refine qS 78 rfl (ok_pick_tt · (.tmp rfl) hc50 (.tmp rfl)) (rE ?_)
  try dsimp only [w0,w1,w2,w3]
  try dsimp only [w0,w1,w2,w3]
  exact J13_snd hrec0 h
 ·refine q_skip (dst := some 76) (t := 75) rfl rfl rfl (bfalse hc50) (q_skip (dst := some 77) (t := 75) rfl rfl rfl (bfalse hc50) ?_)
  try dsimp only [w0,w1,w2,w3]
  refine qS 78 rfl (ok_pick_ff · (.tmp rfl) (bfalse hc50) (.bool _)) (rE ?_)
  try dsimp only [w0,w1,w2,w3]
  try dsimp only [w0,w1,w2,w3]
  exact J13_snd hrec0 h
def J11 (k : Nat) (rec0 : (Option HA) → (Option HA) → Int → HS → Option (((List HV)) × HS)) (y0 : (Option HA)) (y1 : (Option HA)) (y2 : Int) (y4 : Bool) (y5 : Int) (y68 : Bool) (S : HS) : Option (((List HV)) × HS) :=
 (if y68 = true then
 (Option.bind (y1) fun p44 =>
 (if 0 ≤ (y2 : Int) ∧ (y2 : Int) < 256 then
 (Option.bind (HS.ldI S .u16 (HA.fld p44 (Int.toNat y2))) fun p46 =>
 (Option.bind (y1) fun p47 =>
 (if 0 ≤ (y2 : Int) ∧ (y2 : Int) < 256 then
 (Option.bind (HS.sets S (HA.fld p47 (Int.toNat y2)) [(.int .u16 (ior .u16 p46 16))]) fun p49 =>
 J12 k rec0 y0 y1 y2 y4 y5 p49) else none))) else none)) else
 J12 k rec0 y0 y1 y2 y4 y5 S)
theorem J11_snd {k : Nat} {rec0 : (Option HA) → (Option HA) → Int → HS → Option (((List HV)) × HS)} (hrec0 : ∀ ⦃y0 : (Option HA)⦄ ⦃y1 : (Option HA)⦄ ⦃y5 : Int⦄ ⦃S : HS⦄ ⦃p : ((List HV)) × HS⦄ ⦃Gc Gd Ge Gg Gh Gi Gj Gk Gl Gm Gn Go Gp Gq Gr Gs Gt Gu Gv Gw Gx Gy Gz Ka Kb Kc Kd Ke Kf Kg Kh Ki Kj Kk Kl Km Kn Ko Kp Kq Kr Ks Kt Ku Kv Kw Kx Ky Kz Ma Mb Mc Md Me Mf Mg Mh Mi Mj Mk Ml Mm Mn Mo Mp Mq Mr Ms Mt Mu Mv Mw Mx My Mz Na Nb Nc Nd Ne Nf Ng Nh Ni Nj Nk Nl Nm Nn No Np : HV⦄,rec0 y0 y1 y5 S = some p → HRun Tryz.prog base W0 β0 78 none [.inLoop c9,.inBlock 0,.code c65] ⟨[(.ptr y0),(.ptr y1),Gc,Gd,Ge,(.int .i64 y5),Gg,Gh,Gi,Gj,Gk,Gl,Gm,Gn,Go,Gp,Gq,Gr,Gs,Gt,Gu,Gv,Gw,Gx,Gy,Gz,Ka,Kb,Kc,Kd,Ke,Kf,Kg,Kh,Ki,Kj,Kk,Kl,Km,Kn,Ko,Kp,Kq,Kr,Ks,Kt,Ku,Kv,Kw,Kx,Ky,Kz,Ma,Mb,Mc,Md,Me,Mf,Mg,Mh,Mi,Mj,Mk,Ml,Mm,Mn,Mo,Mp,Mq,Mr,Ms,Mt,Mu,Mv,Mw,Mx,My,Mz,Na,Nb,Nc,Nd,Ne,Nf,Ng,Nh,Ni,Nj,Nk,Nl,Nm,Nn,No,Np],[]⟩ S (fun v S1 => v = (.agg p.1) ∧ S1 = p.2)) {y0 : (Option HA)} {y1 : (Option HA)} {y2 : Int} {y4 : Bool} {y5 : Int} {y68 : Bool} {S : HS} {p : ((List HV)) × HS} {Gd Gg Gh Gi Gj Gk Gl Gm Gn Go Gp Gq Gr Gs Gt Gu Gv Gw Gx Gy Gz Ka Kb Kc Kd Ke Kf Kg Kh Ki Kj Kk Kl Km Kn Ko Kp Kq Kr Ks Kt Ku Kv Kw Kx Ky Kz Ma Mb Mc Md Me Mf Mg Mh Mi Mj Mk Ml Mm Mn Mo Mp Mr Ms Mt Mu Mv Mw Mx My Mz Na Nb Nc Nd Ne Nf Ng Nh Ni Nj Nk Nl Nm Nn No Np : HV} (h : J11 k rec0 y0 y1 y2 y4 y5 y68 S = some p) : HRun Tryz.prog base W0 β0 78 none [.code c50,.code c53,.inBlock 1,.code c64,.inLoop c9,.inBlock 0,.code c65] ⟨[(.ptr y0),(.ptr y1),(.int .i64 y2),Gd,(.bool y4),(.int .i64 y5),Gg,Gh,Gi,Gj,Gk,Gl,Gm,Gn,Go,Gp,Gq,Gr,Gs,Gt,Gu,Gv,Gw,Gx,Gy,Gz,Ka,Kb,Kc,Kd,Ke,Kf,Kg,Kh,Ki,Kj,Kk,Kl,Km,Kn,Ko,Kp,Kq,Kr,Ks,Kt,Ku,Kv,Kw,Kx,Ky,Kz,Ma,Mb,Mc,Md,Me,Mf,Mg,Mh,Mi,Mj,Mk,Ml,Mm,Mn,Mo,Mp,(.bool y68),Mr,Ms,Mt,Mu,Mv,Mw,Mx,My,Mz,Na,Nb,Nc,Nd,Ne,Nf,Ng,Nh,Ni,Nj,Nk,Nl,Nm,Nn,No,Np],[]⟩ S (fun v S1 => v = (.agg p.1) ∧ S1 = p.2) := by
 unfold J11 at h
 rcases ifc h with ⟨hc43,h⟩ | ⟨hc43,h⟩
 ·obtain ⟨p44,hp44,h⟩ := bindo h
  obtain ⟨hg45,h⟩ := gd h
  obtain ⟨p46,hp46,h⟩ := bindo h
  refine q_cond_t rfl (.tmp rfl) hc43 (qR rfl rfl (qS 69 rfl (oM · rfl) (qS 70 rfl (ok_indexAddr_arr · ta156 sz155 (.tmp rfl) hp44 (.tmp rfl) hg45) (qS 71 rfl (oL · sc155 rfl rfl (ldI_out hp46)) (qS 72 rfl (oC · rfl rfl) ?_)))))
  try dsimp only [w0,w1,w2,w3]
  obtain ⟨p47,hp47,h⟩ := bindo h
  obtain ⟨hg48,h⟩ := gd h
  obtain ⟨p49,hp49,h⟩ := bindo h
  refine qS 73 rfl (ok_indexAddr_arr · ta156 sz155 (.tmp rfl) hp47 (.tmp rfl) hg48) (qN rfl (ok_store_s (v := (.int .u16 (ior .u16 p46 16))) · sz155 (.tmp rfl) rfl (.tmp rfl) rfl hp49) (rE ?_))
  try dsimp only [w0,w1,w2,w3]
  try dsimp only [w0,w1,w2,w3]
  exact J12_snd hrec0 h
 ·refine q_cond_f rfl (.tmp rfl) (bfalse hc43) (q_skipc rfl ?_)
  try dsimp only [w0,w1,w2,w3]
  exact J12_snd hrec0 h
def J10 (k : Nat) (rec0 : (Option HA) → (Option HA) → Int → HS → Option (((List HV)) × HS)) (y0 : (Option HA)) (y1 : (Option HA)) (y2 : Int) (y4 : Bool) (y5 : Int) (y64 : Bool) (S : HS) : Option (((List HV)) × HS) :=
 (if y64 = true then
 J11 k rec0 y0 y1 y2 y4 y5 true S else
 (Option.bind (valid_has.f ([46,45,58] : List UInt8) y2) fun p66 =>
 J11 k rec0 y0 y1 y2 y4 y5 p66 S))
theorem J10_snd {k : Nat} {rec0 : (Option HA) → (Option HA) → Int → HS → Option (((List HV)) × HS)} (hrec0 : ∀ ⦃y0 : (Option HA)⦄ ⦃y1 : (Option HA)⦄ ⦃y5 : Int⦄ ⦃S : HS⦄ ⦃p : ((List HV)) × HS⦄ ⦃Gc Gd Ge Gg Gh Gi Gj Gk Gl Gm Gn Go Gp Gq Gr Gs Gt Gu Gv Gw Gx Gy Gz Ka Kb Kc Kd Ke Kf Kg Kh Ki Kj Kk Kl Km Kn Ko Kp Kq Kr Ks Kt Ku Kv Kw Kx Ky Kz Ma Mb Mc Md Me Mf Mg Mh Mi Mj Mk Ml Mm Mn Mo Mp Mq Mr Ms Mt Mu Mv Mw Mx My Mz Na Nb Nc Nd Ne Nf Ng Nh Ni Nj Nk Nl Nm Nn No Np : HV⦄,rec0 y0 y1 y5 S = some p → HRun Tryz.prog base W0 β0 78 none [.inLoop c9,.inBlock 0,.code c65] ⟨[(.ptr y0),(.ptr y1),Gc,Gd,Ge,(.int .i64 y5),Gg,Gh,Gi,Gj,Gk,Gl,Gm,Gn,Go,Gp,Gq,Gr,Gs,Gt,Gu,Gv,Gw,Gx,Gy,Gz,Ka,Kb,Kc,Kd,Ke,Kf,Kg,Kh,Ki,Kj,Kk,Kl,Km,Kn,Ko,Kp,Kq,Kr,Ks,Kt,Ku,Kv,Kw,Kx,Ky,Kz,Ma,Mb,Mc,Md,Me,Mf,Mg,Mh,Mi,Mj,Mk,Ml,Mm,Mn,Mo,Mp,Mq,Mr,Ms,Mt,Mu,Mv,Mw,Mx,My,Mz,Na,Nb,Nc,Nd,Ne,Nf,Ng,Nh,Ni,Nj,Nk,Nl,Nm,Nn,No,Np],[]⟩ S (fun v S1 => v = (.agg p.1) ∧ S1 = p.2)) {y0 : (Option HA)} {y1 : (Option HA)} {y2 : Int} {y4 : Bool} {y5 : Int} {y64 : Bool} {S : HS} {p : ((List HV)) × HS} {Gd Gg Gh Gi Gj Gk Gl Gm Gn Go Gp Gq Gr Gs Gt Gu Gv Gw Gx Gy Gz Ka Kb Kc Kd Ke Kf Kg Kh Ki Kj Kk Kl Km Kn Ko Kp Kq Kr Ks Kt Ku Kv Kw Kx Ky Kz Ma Mb Mc Md Me Mf Mg Mh Mi Mj Mk Ml Mn Mo Mp Mq Mr Ms Mt Mu Mv Mw Mx My Mz Na Nb Nc Nd Ne Nf Ng Nh Ni Nj Nk Nl Nm Nn No Np : HV} (h : J10 k rec0 y0 y1 y2 y4 y5 y64 S = some p) : HRun Tryz.prog base W0 β0 78 none [.inRegion r49 [5,6,7,8],.code c50,.code c53,.inBlock 1,.code c64,.inLoop c9,.inBlock 0,.code c65] ⟨[(.ptr y0),(.ptr y1),(.int .i64 y2),Gd,(.bool y4),(.int .i64 y5),Gg,Gh,Gi,Gj,Gk,Gl,Gm,Gn,Go,Gp,Gq,Gr,Gs,Gt,Gu,Gv,Gw,Gx,Gy,Gz,Ka,Kb,Kc,Kd,Ke,Kf,Kg,Kh,Ki,Kj,Kk,Kl,Km,Kn,Ko,Kp,Kq,Kr,Ks,Kt,Ku,Kv,Kw,Kx,Ky,Kz,Ma,Mb,Mc,Md,Me,Mf,Mg,Mh,Mi,Mj,Mk,Ml,(.bool y64),Mn,Mo,Mp,Mq,Mr,Ms,Mt,Mu,Mv,Mw,Mx,My,Mz,Na,Nb,Nc,Nd,Ne,Nf,Ng,Nh,Ni,Nj,Nk,Nl,Nm,Nn,No,Np],[]⟩ S (fun v S1 => v = (.agg p.1) ∧ S1 = p.2) := by
 unfold J10 at h
 refine qS 65 rfl (oM · rfl) ?_
 rcases ifc h with ⟨hc42,h⟩ | ⟨hc42,h⟩
 ·refine q_skip (dst := some 66) (t := 65) rfl rfl rfl hc42 (q_skip (dst := some 67) (t := 65) rfl rfl rfl hc42 ?_)
  try dsimp only [w0,w1,w2,w3]
  refine qS 68 rfl (ok_pick_tt · (.tmp rfl) hc42 (.bool _)) (rE ?_)
  try dsimp only [w0,w1,w2,w3]
  try dsimp only [w0,w1,w2,w3]
  exact J11_snd hrec0 h
 ·obtain ⟨p66,hp66,h⟩ := bindo h
  refine qG 65 66 rfl (bfalse hc42) (oM · rfl) (q_call_g (t := 65) (dst := some 67) rfl rfl rfl (bfalse hc42) (.func _) (.cons (.str _) (.cons (.tmp rfl) Evs.nil)) (HInv.static valid_has.at_ valid_has.body (valid_has.snd  hp66)) ?_)
  rintro _ _ ⟨rfl,rfl⟩
  try dsimp only [w0,w1,w2,w3]
  refine qS 68 rfl (ok_pick_ff · (.tmp rfl) (bfalse hc42) (.tmp rfl)) (rE ?_)
  try dsimp only [w0,w1,w2,w3]
  try dsimp only [w0,w1,w2,w3]
  exact J11_snd hrec0 h
def J9 (k : Nat) (rec0 : (Option HA) → (Option HA) → Int → HS → Option (((List HV)) × HS)) (y0 : (Option HA)) (y1 : (Option HA)) (y2 : Int) (y3 : Bool) (y4 : Bool) (y5 : Int) (S : HS) : Option (((List HV)) × HS) :=
 (Option.bind (valid_letter.f y2) fun p40 =>
 (if p40 = true then
 J10 k rec0 y0 y1 y2 y4 y5 true S else
 J10 k rec0 y0 y1 y2 y4 y5 y3 S))
theorem J9_snd {k : Nat} {rec0 : (Option HA) → (Option HA) → Int → HS → Option (((List HV)) × HS)} (hrec0 : ∀ ⦃y0 : (Option HA)⦄ ⦃y1 : (Option HA)⦄ ⦃y5 : Int⦄ ⦃S : HS⦄ ⦃p : ((List HV)) × HS⦄ ⦃Gc Gd Ge Gg Gh Gi Gj Gk Gl Gm Gn Go Gp Gq Gr Gs Gt Gu Gv Gw Gx Gy Gz Ka Kb Kc Kd Ke Kf Kg Kh Ki Kj Kk Kl Km Kn Ko Kp Kq Kr Ks Kt Ku Kv Kw Kx Ky Kz Ma Mb Mc Md Me Mf Mg Mh Mi Mj Mk Ml Mm Mn Mo Mp Mq Mr Ms Mt Mu Mv Mw Mx My Mz Na Nb Nc Nd Ne Nf Ng Nh Ni Nj Nk Nl Nm Nn No Np : HV⦄,rec0 y0 y1 y5 S = some p → HRun Tryz.prog base W0 β0 78 none [.inLoop c9,.inBlock 0,.code c65] ⟨[(.ptr y0),(.ptr y1),Gc,Gd,Ge,(.int .i64 y5),Gg,Gh,Gi,Gj,Gk,Gl,Gm,Gn,Go,Gp,Gq,Gr,Gs,Gt,Gu,Gv,Gw,Gx,Gy,Gz,Ka,Kb,Kc,Kd,Ke,Kf,Kg,Kh,Ki,Kj,Kk,Kl,Km,Kn,Ko,Kp,Kq,Kr,Ks,Kt,Ku,Kv,Kw,Kx,Ky,Kz,Ma,Mb,Mc,Md,Me,Mf,Mg,Mh,Mi,Mj,Mk,Ml,Mm,Mn,Mo,Mp,Mq,Mr,Ms,Mt,Mu,Mv,Mw,Mx,My,Mz,Na,Nb,Nc,Nd,Ne,Nf,Ng,Nh,Ni,Nj,Nk,Nl,Nm,Nn,No,Np],[]⟩ S (fun v S1 => v = (.agg p.1) ∧ S1 = p.2)) {y0 : (Option HA)} {y1 : (Option HA)} {y2 : Int} {y3 : Bool} {y4 : Bool} {y5 : Int} {S : HS} {p : ((List HV)) × HS} {Gg Gh Gi Gj Gk Gl Gm Gn Go Gp Gq Gr Gs Gt Gu Gv Gw Gx Gy Gz Ka Kb Kc Kd Ke Kf Kg Kh Ki Kj Kk Kl Km Kn Ko Kp Kq Kr Ks Kt Ku Kv Kw Kx Ky Kz Ma Mb Mc Md Me Mf Mg Mh Mi Mj Mk Ml Mm Mn Mo Mp Mq Mr Ms Mt Mu Mv Mw Mx My Mz Na Nb Nc Nd Ne Nf Ng Nh Ni Nj Nk Nl Nm Nn No Np : HV} (h : J9 k rec0 y0 y1 y2 y3 y4 y5 S = some p) : HRun Tryz.prog base W0 β0 78 none [.code c47,.inBlock 1,.code c64,.inLoop c9,.inBlock 0,.code c65] ⟨[(.ptr y0),(.ptr y1),(.int .i64 y2),(.bool y3),(.bool y4),(.int .i64 y5),Gg,Gh,Gi,Gj,Gk,Gl,Gm,Gn,Go,Gp,Gq,Gr,Gs,Gt,Gu,Gv,Gw,Gx,Gy,Gz,Ka,Kb,Kc,Kd,Ke,Kf,Kg,Kh,Ki,Kj,Kk,Kl,Km,Kn,Ko,Kp,Kq,Kr,Ks,Kt,Ku,Kv,Kw,Kx,Ky,Kz,Ma,Mb,Mc,Md,Me,Mf,Mg,Mh,Mi,Mj,Mk,Ml,Mm,Mn,Mo,Mp,Mq,Mr,Ms,Mt,Mu,Mv,Mw,Mx,My,Mz,Na,Nb,Nc,Nd,Ne,Nf,Ng,Nh,Ni,Nj,Nk,Nl,Nm,Nn,No,Np],[]⟩ S (fun v S1 => v = (.agg p.1) ∧ S1 = p.2) := by
 unfold J9 at h
 obtain ⟨p40,hp40,h⟩ := bindo h
 refine qQ rfl (qQ rfl (qR rfl rfl (qS 60 rfl (oM · rfl) (q_call (dst := some 61) rfl (.func _) (.cons (.tmp rfl) Evs.nil) (HInv.static valid_letter.at_ valid_letter.body (valid_letter.snd  hp40)) ?_))))
 rintro _ _ ⟨rfl,rfl⟩
 refine qS 62 rfl (oM · rfl) ?_
 rcases ifc h with ⟨hc41,h⟩ | ⟨hc41,h⟩
 ·refine q_skip (dst := some 63) (t := 62) rfl rfl rfl hc41 ?_
  try dsimp only [w0,w1,w2,w3]
  refine qS 64 rfl (ok_pick_tt · (.tmp rfl) hc41 (.bool _)) ?_
  try dsimp only [w0,w1,w2,w3]
  exact J10_snd hrec0 h
 ·refine qG 62 63 rfl (bfalse hc41) (oM · rfl) ?_
  try dsimp only [w0,w1,w2,w3]
  refine qS 64 rfl (ok_pick_ff · (.tmp rfl) (bfalse hc41) (.tmp rfl)) ?_
  try dsimp only [w0,w1,w2,w3]
  exact J10_snd hrec0 h
def J8 (k : Nat) (rec0 : (Option HA) → (Option HA) → Int → HS → Option (((List HV)) × HS)) (y0 : (Option HA)) (y1 : (Option HA)) (y2 : Int) (y3 : Bool) (y4 : Bool) (y5 : Int) (y54 : Bool) (S : HS) : Option (((List HV)) × HS) :=
 (if y54 = true then
 (Option.bind (y1) fun p34 =>
 (if 0 ≤ (y2 : Int) ∧ (y2 : Int) < 256 then
 (Option.bind (HS.ldI S .u16 (HA.fld p34 (Int.toNat y2))) fun p36 =>
 (Option.bind (y1) fun p37 =>
 (if 0 ≤ (y2 : Int) ∧ (y2 : Int) < 256 then
 (Option.bind (HS.sets S (HA.fld p37 (Int.toNat y2)) [(.int .u16 (ior .u16 p36 8))]) fun p39 =>
 J9 k rec0 y0 y1 y2 y3 y4 y5 p39) else none))) else none)) else
 J9 k rec0 y0 y1 y2 y3 y4 y5 S)
theorem J8_snd {k : Nat} {rec0 : (Option HA) → (Option HA) → Int → HS → Option (((List HV)) × HS)} (hrec0 : ∀ ⦃y0 : (Option HA)⦄ ⦃y1 : (Option HA)⦄ ⦃y5 : Int⦄ ⦃S : HS⦄ ⦃p : ((List HV)) × HS⦄ ⦃Gc Gd Ge Gg Gh Gi Gj Gk Gl Gm Gn Go Gp Gq Gr Gs Gt Gu Gv Gw Gx Gy Gz Ka Kb Kc Kd Ke Kf Kg Kh Ki Kj Kk Kl Km Kn Ko Kp Kq Kr Ks Kt Ku Kv Kw Kx Ky Kz Ma Mb Mc Md Me Mf Mg Mh Mi Mj Mk Ml Mm Mn Mo Mp Mq Mr Ms Mt Mu Mv Mw Mx My Mz Na Nb Nc Nd Ne Nf Ng Nh Ni Nj Nk Nl Nm Nn No Np : HV⦄,rec0 y0 y1 y5 S = some p → HRun Tryz.prog base W0 β0 78 none [.inLoop c9,.inBlock 0,.code c65] ⟨[(.ptr y0),(.ptr y1),Gc,Gd,Ge,(.int .i64 y5),Gg,Gh,Gi,Gj,Gk,Gl,Gm,Gn,Go,Gp,Gq,Gr,Gs,Gt,Gu,Gv,Gw,Gx,Gy,Gz,Ka,Kb,Kc,Kd,Ke,Kf,Kg,Kh,Ki,Kj,Kk,Kl,Km,Kn,Ko,Kp,Kq,Kr,Ks,Kt,Ku,Kv,Kw,Kx,Ky,Kz,Ma,Mb,Mc,Md,Me,Mf,Mg,Mh,Mi,Mj,Mk,Ml,Mm,Mn,Mo,Mp,Mq,Mr,Ms,Mt,Mu,Mv,Mw,Mx,My,Mz,Na,Nb,Nc,Nd,Ne,Nf,Ng,Nh,Ni,Nj,Nk,Nl,Nm,Nn,No,Np],[]⟩ S (fun v S1 => v = (.agg p.1) ∧ S1 = p.2)) {y0 : (Option HA)} {y1 : (Option HA)} {y2 : Int} {y3 : Bool} {y4 : Bool} {y5 : Int} {y54 : Bool} {S : HS} {p : ((List HV)) × HS} {Gg Gh Gi Gj Gk Gl Gm Gn Go Gp Gq Gr Gs Gt Gu Gv Gw Gx Gy Gz Ka Kb Kc Kd Ke Kf Kg Kh Ki Kj Kk Kl Km Kn Ko Kp Kq Kr Ks Kt Ku Kv Kw Kx Ky Kz Ma Mb Md Me Mf Mg Mh Mi Mj Mk Ml Mm Mn Mo Mp Mq Mr Ms Mt Mu Mv Mw Mx My Mz Na Nb Nc Nd Ne Nf Ng Nh Ni Nj Nk Nl Nm Nn No Np : HV} (h : J8 k rec0 y0 y1 y2 y3 y4 y5 y54 S = some p) : HRun Tryz.prog base W0 β0 78 none [.code c44,.code c47,.inBlock 1,.code c64,.inLoop c9,.inBlock 0,.code c65] ⟨[(.ptr y0),(.ptr y1),(.int .i64 y2),(.bool y3),(.bool y4),(.int .i64 y5),Gg,Gh,Gi,Gj,Gk,Gl,Gm,Gn,Go,Gp,Gq,Gr,Gs,Gt,Gu,Gv,Gw,Gx,Gy,Gz,Ka,Kb,Kc,Kd,Ke,Kf,Kg,Kh,Ki,Kj,Kk,Kl,Km,Kn,Ko,Kp,Kq,Kr,Ks,Kt,Ku,Kv,Kw,Kx,Ky,Kz,Ma,Mb,(.bool y54),Md,Me,Mf,Mg,Mh,Mi,Mj,Mk,Ml,Mm,Mn,Mo,Mp,Mq,Mr,Ms,Mt,Mu,Mv,Mw,Mx,My,Mz,Na,Nb,Nc,Nd,Ne,Nf,Ng,Nh,Ni,Nj,Nk,Nl,Nm,Nn,No,Np],[]⟩ S (fun v S1 => v = (.agg p.1) ∧ S1 = p.2) := by
 unfold J8 at h
 rcases ifc h with ⟨hc33,h⟩ | ⟨hc33,h⟩
 ·obtain ⟨p34,hp34,h⟩ := bindo h
  obtain ⟨hg35,h⟩ := gd h
  obtain ⟨p36,hp36,h⟩ := bindo h
  refine q_cond_t rfl (.tmp rfl) hc33 (qR rfl rfl (qS 55 rfl (oM · rfl) (qS 56 rfl (ok_indexAddr_arr · ta156 sz155 (.tmp rfl) hp34 (.tmp rfl) hg35) (qS 57 rfl (oL · sc155 rfl rfl (ldI_out hp36)) (qS 58 rfl (oC · rfl rfl) ?_)))))
  try dsimp only [w0,w1,w2,w3]
  obtain ⟨p37,hp37,h⟩ := bindo h
  obtain ⟨hg38,h⟩ := gd h
  obtain ⟨p39,hp39,h⟩ := bindo h
  refine qS 59 rfl (ok_indexAddr_arr · ta156 sz155 (.tmp rfl) hp37 (.tmp rfl) hg38) (qN rfl (ok_store_s (v := (.int .u16 (ior .u16 p36 8))) · sz155 (.tmp rfl) rfl (.tmp rfl) rfl hp39) (rE ?_))
  try dsimp only [w0,w1,w2,w3]
  try dsimp only [w0,w1,w2,w3]
  exact J9_snd hrec0 h
 ·refine q_cond_f rfl (.tmp rfl) (bfalse hc33) (q_skipc rfl ?_)
  try dsimp only [w0,w1,w2,w3]
  exact J9_snd hrec0 h
def J7 (k : Nat) (rec0 : (Option HA) → (Option HA) → Int → HS → Option (((List HV)) × HS)) (y0 : (Option HA)) (y1 : (Option HA)) (y2 : Int) (y3 : Bool) (y4 : Bool) (y5 : Int) (S : HS) : Option (((List HV)) × HS) :=
 (if y4 = true then
 (Option.bind (valid_has.f ([33,64,42,63,58] : List UInt8) y2) fun p32 =>
 J8 k rec0 y0 y1 y2 y3 y4 y5 (!p32) S) else
 J8 k rec0 y0 y1 y2 y3 y4 y5 false S)
theorem J7_snd {k : Nat} {rec0 : (Option HA) → (Option HA) → Int → HS → Option (((List HV)) × HS)} (hrec0 : ∀ ⦃y0 : (Option HA)⦄ ⦃y1 : (Option HA)⦄ ⦃y5 : Int⦄ ⦃S : HS⦄ ⦃p : ((List HV)) × HS⦄ ⦃Gc Gd Ge Gg Gh Gi Gj Gk Gl Gm Gn Go Gp Gq Gr Gs Gt Gu Gv Gw Gx Gy Gz Ka Kb Kc Kd Ke Kf Kg Kh Ki Kj Kk Kl Km Kn Ko Kp Kq Kr Ks Kt Ku Kv Kw Kx Ky Kz Ma Mb Mc Md Me Mf Mg Mh Mi Mj Mk Ml Mm Mn Mo Mp Mq Mr Ms Mt Mu Mv Mw Mx My Mz Na Nb Nc Nd Ne Nf Ng Nh Ni Nj Nk Nl Nm Nn No Np : HV⦄,rec0 y0 y1 y5 S = some p → HRun Tryz.prog base W0 β0 78 none [.inLoop c9,.inBlock 0,.code c65] ⟨[(.ptr y0),(.ptr y1),Gc,Gd,Ge,(.int .i64 y5),Gg,Gh,Gi,Gj,Gk,Gl,Gm,Gn,Go,Gp,Gq,Gr,Gs,Gt,Gu,Gv,Gw,Gx,Gy,Gz,Ka,Kb,Kc,Kd,Ke,Kf,Kg,Kh,Ki,Kj,Kk,Kl,Km,Kn,Ko,Kp,Kq,Kr,Ks,Kt,Ku,Kv,Kw,Kx,Ky,Kz,Ma,Mb,Mc,Md,Me,Mf,Mg,Mh,Mi,Mj,Mk,Ml,Mm,Mn,Mo,Mp,Mq,Mr,Ms,Mt,Mu,Mv,Mw,Mx,My,Mz,Na,Nb,Nc,Nd,Ne,Nf,Ng,Nh,Ni,Nj,Nk,Nl,Nm,Nn,No,Np],[]⟩ S (fun v S1 => v = (.agg p.1) ∧ S1 = p.2)) {y0 : (Option HA)} {y1 : (Option HA)} {y2 : Int} {y3 : Bool} {y4 : Bool} {y5 : Int} {S : HS} {p : ((List HV)) × HS} {Gg Gh Gi Gj Gk Gl Gm Gn Go Gp Gq Gr Gs Gt Gu Gv Gw Gx Gy Gz Ka Kb Kc Kd Ke Kf Kg Kh Ki Kj Kk Kl Km Kn Ko Kp Kq Kr Ks Kt Ku Kv Kw Kx Ky Kz Ma Mb Mc Md Me Mf Mg Mh Mi Mj Mk Ml Mm Mn Mo Mp Mq Mr Ms Mt Mu Mv Mw Mx My Mz Na Nb Nc Nd Ne Nf Ng Nh Ni Nj Nk Nl Nm Nn No Np : HV} (h : J7 k rec0 y0 y1 y2 y3 y4 y5 S = some p) : HRun Tryz.prog base W0 β0 78 none [.code c41,.inBlock 1,.code c64,.inLoop c9,.inBlock 0,.code c65] ⟨[(.ptr y0),(.ptr y1),(.int .i64 y2),(.bool y3),(.bool y4),(.int .i64 y5),Gg,Gh,Gi,Gj,Gk,Gl,Gm,Gn,Go,Gp,Gq,Gr,Gs,Gt,Gu,Gv,Gw,Gx,Gy,Gz,Ka,Kb,Kc,Kd,Ke,Kf,Kg,Kh,Ki,Kj,Kk,Kl,Km,Kn,Ko,Kp,Kq,Kr,Ks,Kt,Ku,Kv,Kw,Kx,Ky,Kz,Ma,Mb,Mc,Md,Me,Mf,Mg,Mh,Mi,Mj,Mk,Ml,Mm,Mn,Mo,Mp,Mq,Mr,Ms,Mt,Mu,Mv,Mw,Mx,My,Mz,Na,Nb,Nc,Nd,Ne,Nf,Ng,Nh,Ni,Nj,Nk,Nl,Nm,Nn,No,Np],[]⟩ S (fun v S1 => v = (.agg p.1) ∧ S1 = p.2) := by
 unfold J7 at h
 refine qQ rfl (qQ rfl (qR rfl rfl (qS 49 rfl (oM · rfl) (qS 50 rfl (oM · rfl) ?_))))
 rcases ifc h with ⟨hc31,h⟩ | ⟨hc31,h⟩
 ·obtain ⟨p32,hp32,h⟩ := bindo h
  refine qG 50 51 rfl hc31 (oM · rfl) (q_call_g (t := 50) (dst := some 52) rfl rfl rfl hc31 (.func _) (.cons (.str _) (.cons (.tmp rfl) Evs.nil)) (HInv.static valid_has.at_ valid_has.body (valid_has.snd  hp32)) ?_)
  rintro _ _ ⟨rfl,rfl⟩
  try dsimp only [w0,w1,w2,w3]
  refine qG 50 53 rfl hc31 (ok_not · (.tmp rfl)) (qS 54 rfl (ok_pick_tt · (.tmp rfl) hc31 (.tmp rfl)) (rE ?_))
  try dsimp only [w0,w1,w2,w3]
  try dsimp only [w0,w1,w2,w3]
  exact J8_snd hrec0 h
 ·refine q_skip (dst := some 51) (t := 50) rfl rfl rfl (bfalse hc31) (q_skip (dst := some 52) (t := 50) rfl rfl rfl (bfalse hc31) ?_)
  try dsimp only [w0,w1,w2,w3]
  refine q_skip (dst := some 53) (t := 50) rfl rfl rfl (bfalse hc31) (qS 54 rfl (ok_pick_ff · (.tmp rfl) (bfalse hc31) (.bool _)) (rE ?_))
  try dsimp only [w0,w1,w2,w3]
  try dsimp only [w0,w1,w2,w3]
  exact J8_snd hrec0 h
def J6 (k : Nat) (rec0 : (Option HA) → (Option HA) → Int → HS → Option (((List HV)) × HS)) (y0 : (Option HA)) (y1 : (Option HA)) (y2 : Int) (y3 : Bool) (y4 : Bool) (y5 : Int) (S : HS) : Option (((List HV)) × HS) :=
 (Option.bind (valid_has.f ([0,7,10,13,32,44,58] : List UInt8) y2) fun p23 =>
 (if (!p23) = true then
 (Option.bind (y1) fun p25 =>
 (if 0 ≤ (y2 : Int) ∧ (y2 : Int) < 256 then
 (Option.bind (HS.ldI S .u16 (HA.fld p25 (Int.toNat y2))) fun p27 =>
 (Option.bind (y1) fun p28 =>
 (if 0 ≤ (y2 : Int) ∧ (y2 : Int) < 256 then
 (Option.bind (HS.sets S (HA.fld p28 (Int.toNat y2)) [(.int .u16 (ior .u16 p27 4))]) fun p30 =>
 J7 k rec0 y0 y1 y2 y3 y4 y5 p30) else none))) else none)) else
 J7 k rec0 y0 y1 y2 y3 y4 y5 S))
theorem J6_snd {k : Nat} {rec0 : (Option HA) → (Option HA) → Int → HS → Option (((List HV)) × HS)} (hrec0 : ∀ ⦃y0 : (Option HA)⦄ ⦃y1 : (Option HA)⦄ ⦃y5 : Int⦄ ⦃S : HS⦄ ⦃p : ((List HV)) × HS⦄ ⦃Gc Gd Ge Gg Gh Gi Gj Gk Gl Gm Gn Go Gp Gq Gr Gs Gt Gu Gv Gw Gx Gy Gz Ka Kb Kc Kd Ke Kf Kg Kh Ki Kj Kk Kl Km Kn Ko Kp Kq Kr Ks Kt Ku Kv Kw Kx Ky Kz Ma Mb Mc Md Me Mf Mg Mh Mi Mj Mk Ml Mm Mn Mo Mp Mq Mr Ms Mt Mu Mv Mw Mx My Mz Na Nb Nc Nd Ne Nf Ng Nh Ni Nj Nk Nl Nm Nn No Np : HV⦄,rec0 y0 y1 y5 S = some p → HRun Tryz.prog base W0 β0 78 none [.inLoop c9,.inBlock 0,.code c65] ⟨[(.ptr y0),(.ptr y1),Gc,Gd,Ge,(.int .i64 y5),Gg,Gh,Gi,Gj,Gk,Gl,Gm,Gn,Go,Gp,Gq,Gr,Gs,Gt,Gu,Gv,Gw,Gx,Gy,Gz,Ka,Kb,Kc,Kd,Ke,Kf,Kg,Kh,Ki,Kj,Kk,Kl,Km,Kn,Ko,Kp,Kq,Kr,Ks,Kt,Ku,Kv,Kw,Kx,Ky,Kz,Ma,Mb,Mc,Md,Me,Mf,Mg,Mh,Mi,Mj,Mk,Ml,Mm,Mn,Mo,Mp,Mq,Mr,Ms,Mt,Mu,Mv,Mw,Mx,My,Mz,Na,Nb,Nc,Nd,Ne,Nf,Ng,Nh,Ni,Nj,Nk,Nl,Nm,Nn,No,Np],[]⟩ S (fun v S1 => v = (.agg p.1) ∧ S1 = p.2)) {y0 : (Option HA)} {y1 : (Option HA)} {y2 : Int} {y3 : Bool} {y4 : Bool} {y5 : Int} {S : HS} {p : ((List HV)) × HS} {Gg Gh Gi Gj Gk Gl Gm Gn Go Gp Gq Gr Gs Gt Gu Gv Gw Gx Gy Gz Ka Kb Kc Kd Ke Kf Kg Kh Ki Kj Kk Kl Km Kn Ko Kp Kq Kr Ks Kt Ku Kv Kw Kx Ky Kz Ma Mb Mc Md Me Mf Mg Mh Mi Mj Mk Ml Mm Mn Mo Mp Mq Mr Ms Mt Mu Mv Mw Mx My Mz Na Nb Nc Nd Ne Nf Ng Nh Ni Nj Nk Nl Nm Nn No Np : HV} (h : J6 k rec0 y0 y1 y2 y3 y4 y5 S = some p) : HRun Tryz.prog base W0 β0 78 none [.code c35,.inBlock 1,.code c64,.inLoop c9,.inBlock 0,.code c65] ⟨[(.ptr y0),(.ptr y1),(.int .i64 y2),(.bool y3),(.bool y4),(.int .i64 y5),Gg,Gh,Gi,Gj,Gk,Gl,Gm,Gn,Go,Gp,Gq,Gr,Gs,Gt,Gu,Gv,Gw,Gx,Gy,Gz,Ka,Kb,Kc,Kd,Ke,Kf,Kg,Kh,Ki,Kj,Kk,Kl,Km,Kn,Ko,Kp,Kq,Kr,Ks,Kt,Ku,Kv,Kw,Kx,Ky,Kz,Ma,Mb,Mc,Md,Me,Mf,Mg,Mh,Mi,Mj,Mk,Ml,Mm,Mn,Mo,Mp,Mq,Mr,Ms,Mt,Mu,Mv,Mw,Mx,My,Mz,Na,Nb,Nc,Nd,Ne,Nf,Ng,Nh,Ni,Nj,Nk,Nl,Nm,Nn,No,Np],[]⟩ S (fun v S1 => v = (.agg p.1) ∧ S1 = p.2) := by
 unfold J6 at h
 obtain ⟨p23,hp23,h⟩ := bindo h
 refine qQ rfl (qQ rfl (qR rfl rfl (qS 41 rfl (oM · rfl) (q_call (dst := some 42) rfl (.func _) (.cons (.str _) (.cons (.tmp rfl) Evs.nil)) (HInv.static valid_has.at_ valid_has.body (valid_has.snd  hp23)) ?_))))
 rintro _ _ ⟨rfl,rfl⟩
 refine qS 43 rfl (ok_not · (.tmp rfl)) (rE ?_)
 try dsimp only [w0,w1,w2,w3]
 rcases ifc h with ⟨hc24,h⟩ | ⟨hc24,h⟩
 ·obtain ⟨p25,hp25,h⟩ := bindo h
  obtain ⟨hg26,h⟩ := gd h
  obtain ⟨p27,hp27,h⟩ := bindo h
  refine q_cond_t rfl (.tmp rfl) hc24 (qR rfl rfl (qS 44 rfl (oM · rfl) (qS 45 rfl (ok_indexAddr_arr · ta156 sz155 (.tmp rfl) hp25 (.tmp rfl) hg26) (qS 46 rfl (oL · sc155 rfl rfl (ldI_out hp27)) (qS 47 rfl (oC · rfl rfl) ?_)))))
  try dsimp only [w0,w1,w2,w3]
  obtain ⟨p28,hp28,h⟩ := bindo h
  obtain ⟨hg29,h⟩ := gd h
  obtain ⟨p30,hp30,h⟩ := bindo h
  refine qS 48 rfl (ok_indexAddr_arr · ta156 sz155 (.tmp rfl) hp28 (.tmp rfl) hg29) (qN rfl (ok_store_s (v := (.int .u16 (ior .u16 p27 4))) · sz155 (.tmp rfl) rfl (.tmp rfl) rfl hp30) (rE ?_))
  try dsimp only [w0,w1,w2,w3]
  try dsimp only [w0,w1,w2,w3]
  exact J7_snd hrec0 h
 ·refine q_cond_f rfl (.tmp rfl) (bfalse hc24) (q_skipc rfl ?_)
  try dsimp only [w0,w1,w2,w3]
  exact J7_snd hrec0 h
def J5 (k : Nat) (rec0 : (Option HA) → (Option HA) → Int → HS → Option (((List HV)) × HS)) (y0 : (Option HA)) (y1 : (Option HA)) (y2 : Int) (y3 : Bool) (y4 : Bool) (y5 : Int) (y35 : Bool) (S : HS) : Option (((List HV)) × HS) :=
 (if y35 = true then
 (Option.bind (y1) fun p17 =>
 (if 0 ≤ (y2 : Int) ∧ (y2 : Int) < 256 then
 (Option.bind (HS.ldI S .u16 (HA.fld p17 (Int.toNat y2))) fun p19 =>
 (Option.bind (y1) fun p20 =>
 (if 0 ≤ (y2 : Int) ∧ (y2 : Int) < 256 then
 (Option.bind (HS.sets S (HA.fld p20 (Int.toNat y2)) [(.int .u16 (ior .u16 p19 2))]) fun p22 =>
 J6 k rec0 y0 y1 y2 y3 y4 y5 p22) else none))) else none)) else
 J6 k rec0 y0 y1 y2 y3 y4 y5 S)
theorem J5_snd {k : Nat} {rec0 : (Option HA) → (Option HA) → Int → HS → Option (((List HV)) × HS)} (hrec0 : ∀ ⦃y0 : (Option HA)⦄ ⦃y1 : (Option HA)⦄ ⦃y5 : Int⦄ ⦃S : HS⦄ ⦃p : ((List HV)) × HS⦄ ⦃Gc Gd Ge Gg Gh Gi Gj Gk Gl Gm Gn Go Gp Gq Gr Gs Gt Gu Gv Gw Gx Gy Gz Ka Kb Kc Kd Ke Kf Kg Kh Ki Kj Kk Kl Km Kn Ko Kp Kq Kr Ks Kt Ku Kv Kw Kx Ky Kz Ma Mb Mc Md Me Mf Mg Mh Mi Mj Mk Ml Mm Mn Mo Mp Mq Mr Ms Mt Mu Mv Mw Mx My Mz Na Nb Nc Nd Ne Nf Ng Nh Ni Nj Nk Nl Nm Nn No Np : HV⦄,rec0 y0 y1 y5 S = some p → HRun Tryz.prog base W0 β0 78 none [.inLoop c9,.inBlock 0,.code c65] ⟨[(.ptr y0),(.ptr y1),Gc,Gd,Ge,(.int .i64 y5),Gg,Gh,Gi,Gj,Gk,Gl,Gm,Gn,Go,Gp,Gq,Gr,Gs,Gt,Gu,Gv,Gw,Gx,Gy,Gz,Ka,Kb,Kc,Kd,Ke,Kf,Kg,Kh,Ki,Kj,Kk,Kl,Km,Kn,Ko,Kp,Kq,Kr,Ks,Kt,Ku,Kv,Kw,Kx,Ky,Kz,Ma,Mb,Mc,Md,Me,Mf,Mg,Mh,Mi,Mj,Mk,Ml,Mm,Mn,Mo,Mp,Mq,Mr,Ms,Mt,Mu,Mv,Mw,Mx,My,Mz,Na,Nb,Nc,Nd,Ne,Nf,Ng,Nh,Ni,Nj,Nk,Nl,Nm,Nn,No,Np],[]⟩ S (fun v S1 => v = (.agg p.1) ∧ S1 = p.2)) {y0 : (Option HA)} {y1 : (Option HA)} {y2 : Int} {y3 : Bool} {y4 : Bool} {y5 : Int} {y35 : Bool} {S : HS} {p : ((List HV)) × HS} {Gg Gh Gi Gj Gk Gl Gm Gn Go Gp Gq Gr Gs Gt Gu Gv Gw Gx Gy Gz Ka Kb Kc Kd Ke Kf Kg Kh Ki Kk Kl Km Kn Ko Kp Kq Kr Ks Kt Ku Kv Kw Kx Ky Kz Ma Mb Mc Md Me Mf Mg Mh Mi Mj Mk Ml Mm Mn Mo Mp Mq Mr Ms Mt Mu Mv Mw Mx My Mz Na Nb Nc Nd Ne Nf Ng Nh Ni Nj Nk Nl Nm Nn No Np : HV} (h : J5 k rec0 y0 y1 y2 y3 y4 y5 y35 S = some p) : HRun Tryz.prog base W0 β0 78 none [.code c32,.code c35,.inBlock 1,.code c64,.inLoop c9,.inBlock 0,.code c65] ⟨[(.ptr y0),(.ptr y1),(.int .i64 y2),(.bool y3),(.bool y4),(.int .i64 y5),Gg,Gh,Gi,Gj,Gk,Gl,Gm,Gn,Go,Gp,Gq,Gr,Gs,Gt,Gu,Gv,Gw,Gx,Gy,Gz,Ka,Kb,Kc,Kd,Ke,Kf,Kg,Kh,Ki,(.bool y35),Kk,Kl,Km,Kn,Ko,Kp,Kq,Kr,Ks,Kt,Ku,Kv,Kw,Kx,Ky,Kz,Ma,Mb,Mc,Md,Me,Mf,Mg,Mh,Mi,Mj,Mk,Ml,Mm,Mn,Mo,Mp,Mq,Mr,Ms,Mt,Mu,Mv,Mw,Mx,My,Mz,Na,Nb,Nc,Nd,Ne,Nf,Ng,Nh,Ni,Nj,Nk,Nl,Nm,Nn,No,Np],[]⟩ S (fun v S1 => v = (.agg p.1) ∧ S1 = p.2) := by
 unfold J5 at h
 rcases ifc h with ⟨hc16,h⟩ | ⟨hc16,h⟩
 ·obtain ⟨p17,hp17,h⟩ := bindo h
  obtain ⟨hg18,h⟩ := gd h
  obtain ⟨p19,hp19,h⟩ := bindo h
  refine q_cond_t rfl (.tmp rfl) hc16 (qR rfl rfl (qS 36 rfl (oM · rfl) (qS 37 rfl (ok_indexAddr_arr · ta156 sz155 (.tmp rfl) hp17 (.tmp rfl) hg18) (qS 38 rfl (oL · sc155 rfl rfl (ldI_out hp19)) (qS 39 rfl (oC · rfl rfl) ?_)))))
  try dsimp only [w0,w1,w2,w3]
  obtain ⟨p20,hp20,h⟩ := bindo h
  obtain ⟨hg21,h⟩ := gd h
  obtain ⟨p22,hp22,h⟩ := bindo h
  refine qS 40 rfl (ok_indexAddr_arr · ta156 sz155 (.tmp rfl) hp20 (.tmp rfl) hg21) (qN rfl (ok_store_s (v := (.int .u16 (ior .u16 p19 2))) · sz155 (.tmp rfl) rfl (.tmp rfl) rfl hp22) (rE ?_))
  try dsimp only [w0,w1,w2,w3]
  try dsimp only [w0,w1,w2,w3]
  exact J6_snd hrec0 h
 ·refine q_cond_f rfl (.tmp rfl) (bfalse hc16) (q_skipc rfl ?_)
  try dsimp only [w0,w1,w2,w3]
  exact J6_snd hrec0 h
def J4 (k : Nat) (rec0 : (Option HA) → (Option HA) → Int → HS → Option (((List HV)) × HS)) (y0 : (Option HA)) (y1 : (Option HA)) (y2 : Int) (y3 : Bool) (y4 : Bool) (y5 : Int) (S : HS) : Option (((List HV)) × HS) :=
 (if y3 = true then
 J5 k rec0 y0 y1 y2 y3 y4 y5 true S else
 J5 k rec0 y0 y1 y2 y3 y4 y5 (decide (y2 = 45)) S)
theorem J4_snd {k : Nat} {rec0 : (Option HA) → (Option HA) → Int → HS → Option (((List HV)) × HS)} (hrec0 : ∀ ⦃y0 : (Option HA)⦄ ⦃y1 : (Option HA)⦄ ⦃y5 : Int⦄ ⦃S : HS⦄ ⦃p : ((List HV)) × HS⦄ ⦃Gc Gd Ge Gg Gh Gi Gj Gk Gl Gm Gn Go Gp Gq Gr Gs Gt Gu Gv Gw Gx Gy Gz Ka Kb Kc Kd Ke Kf Kg Kh Ki Kj Kk Kl Km Kn Ko Kp Kq Kr Ks Kt Ku Kv Kw Kx Ky Kz Ma Mb Mc Md Me Mf Mg Mh Mi Mj Mk Ml Mm Mn Mo Mp Mq Mr Ms Mt Mu Mv Mw Mx My Mz Na Nb Nc Nd Ne Nf Ng Nh Ni Nj Nk Nl Nm Nn No Np : HV⦄,rec0 y0 y1 y5 S = some p → HRun Tryz.prog base W0 β0 78 none [.inLoop c9,.inBlock 0,.code c65] ⟨[(.ptr y0),(.ptr y1),Gc,Gd,Ge,(.int .i64 y5),Gg,Gh,Gi,Gj,Gk,Gl,Gm,Gn,Go,Gp,Gq,Gr,Gs,Gt,Gu,Gv,Gw,Gx,Gy,Gz,Ka,Kb,Kc,Kd,Ke,Kf,Kg,Kh,Ki,Kj,Kk,Kl,Km,Kn,Ko,Kp,Kq,Kr,Ks,Kt,Ku,Kv,Kw,Kx,Ky,Kz,Ma,Mb,Mc,Md,Me,Mf,Mg,Mh,Mi,Mj,Mk,Ml,Mm,Mn,Mo,Mp,Mq,Mr,Ms,Mt,Mu,Mv,Mw,Mx,My,Mz,Na,Nb,Nc,Nd,Ne,Nf,Ng,Nh,Ni,Nj,Nk,Nl,Nm,Nn,No,Np],[]⟩ S (fun v S1 => v = (.agg p.1) ∧ S1 = p.2)) {y0 : (Option HA)} {y1 : (Option HA)} {y2 : Int} {y3 : Bool} {y4 : Bool} {y5 : Int} {S : HS} {p : ((List HV)) × HS} {Gg Gh Gi Gj Gk Gl Gm Gn Go Gp Gq Gr Gs Gt Gu Gv Gw Gx Gy Gz Ka Kb Kc Kd Ke Kf Kg Kh Ki Kj Kk Kl Km Kn Ko Kp Kq Kr Ks Kt Ku Kv Kw Kx Ky Kz Ma Mb Mc Md Me Mf Mg Mh Mi Mj Mk Ml Mm Mn Mo Mp Mq Mr Ms Mt Mu Mv Mw Mx My Mz Na Nb Nc Nd Ne Nf Ng Nh Ni Nj Nk Nl Nm Nn No Np : HV} (h : J4 k rec0 y0 y1 y2 y3 y4 y5 S = some p) : HRun Tryz.prog base W0 β0 78 none [.code c29,.inBlock 1,.code c64,.inLoop c9,.inBlock 0,.code c65] ⟨[(.ptr y0),(.ptr y1),(.int .i64 y2),(.bool y3),(.bool y4),(.int .i64 y5),Gg,Gh,Gi,Gj,Gk,Gl,Gm,Gn,Go,Gp,Gq,Gr,Gs,Gt,Gu,Gv,Gw,Gx,Gy,Gz,Ka,Kb,Kc,Kd,Ke,Kf,Kg,Kh,Ki,Kj,Kk,Kl,Km,Kn,Ko,Kp,Kq,Kr,Ks,Kt,Ku,Kv,Kw,Kx,Ky,Kz,Ma,Mb,Mc,Md,Me,Mf,Mg,Mh,Mi,Mj,Mk,Ml,Mm,Mn,Mo,Mp,Mq,Mr,Ms,Mt,Mu,Mv,Mw,Mx,My,Mz,Na,Nb,Nc,Nd,Ne,Nf,Ng,Nh,Ni,Nj,Nk,Nl,Nm,Nn,No,Np],[]⟩ S (fun v S1 => v = (.agg p.1) ∧ S1 = p.2) := by
 unfold J4 at h
 refine qQ rfl (qQ rfl (qR rfl rfl (qS 31 rfl (oM · rfl) (qS 32 rfl (oM · rfl) ?_))))
 rcases ifc h with ⟨hc15,h⟩ | ⟨hc15,h⟩
 ·refine q_skip (dst := some 33) (t := 32) rfl rfl rfl hc15 (q_skip (dst := some 34) (t := 32) rfl rfl rfl hc15 ?_)
  try dsimp only [w0,w1,w2,w3]
  refine qS 35 rfl (ok_pick_tt · (.tmp rfl) hc15 (.bool _)) (rE ?_)
  try dsimp only [w0,w1,w2,w3]
  try dsimp only [w0,w1,w2,w3]
  exact J5_snd hrec0 h
 ·refine qG 32 33 rfl (bfalse hc15) (oM · rfl) (qG 32 34 rfl (bfalse hc15) (oC · rfl rfl) ?_)
  try dsimp only [w0,w1,w2,w3]
  refine qS 35 rfl (ok_pick_ff · (.tmp rfl) (bfalse hc15) (.tmp rfl)) (rE ?_)
  try dsimp only [w0,w1,w2,w3]
  try dsimp only [w0,w1,w2,w3]
  exact J5_snd hrec0 h
def J3 (k : Nat) (rec0 : (Option HA) → (Option HA) → Int → HS → Option (((List HV)) × HS)) (y0 : (Option HA)) (y1 : (Option HA)) (y2 : Int) (y3 : Bool) (y4 : Bool) (y5 : Int) (y25 : Bool) (S : HS) : Option (((List HV)) × HS) :=
 (if y25 = true then
 (Option.bind (y1) fun p9 =>
 (if 0 ≤ (y2 : Int) ∧ (y2 : Int) < 256 then
 (Option.bind (HS.ldI S .u16 (HA.fld p9 (Int.toNat y2))) fun p11 =>
 (Option.bind (y1) fun p12 =>
 (if 0 ≤ (y2 : Int) ∧ (y2 : Int) < 256 then
 (Option.bind (HS.sets S (HA.fld p12 (Int.toNat y2)) [(.int .u16 (ior .u16 p11 3))]) fun p14 =>
 J4 k rec0 y0 y1 y2 y3 y4 y5 p14) else none))) else none)) else
 J4 k rec0 y0 y1 y2 y3 y4 y5 S)
theorem J3_snd {k : Nat} {rec0 : (Option HA) → (Option HA) → Int → HS → Option (((List HV)) × HS)} (hrec0 : ∀ ⦃y0 : (Option HA)⦄ ⦃y1 : (Option HA)⦄ ⦃y5 : Int⦄ ⦃S : HS⦄ ⦃p : ((List HV)) × HS⦄ ⦃Gc Gd Ge Gg Gh Gi Gj Gk Gl Gm Gn Go Gp Gq Gr Gs Gt Gu Gv Gw Gx Gy Gz Ka Kb Kc Kd Ke Kf Kg Kh Ki Kj Kk Kl Km Kn Ko Kp Kq Kr Ks Kt Ku Kv Kw Kx Ky Kz Ma Mb Mc Md Me Mf Mg Mh Mi Mj Mk Ml Mm Mn Mo Mp Mq Mr Ms Mt Mu Mv Mw Mx My Mz Na Nb Nc Nd Ne Nf Ng Nh Ni Nj Nk Nl Nm Nn No Np : HV⦄,rec0 y0 y1 y5 S = some p → HRun Tryz.prog base W0 β0 78 none [.inLoop c9,.inBlock 0,.code c65] ⟨[(.ptr y0),(.ptr y1),Gc,Gd,Ge,(.int .i64 y5),Gg,Gh,Gi,Gj,Gk,Gl,Gm,Gn,Go,Gp,Gq,Gr,Gs,Gt,Gu,Gv,Gw,Gx,Gy,Gz,Ka,Kb,Kc,Kd,Ke,Kf,Kg,Kh,Ki,Kj,Kk,Kl,Km,Kn,Ko,Kp,Kq,Kr,Ks,Kt,Ku,Kv,Kw,Kx,Ky,Kz,Ma,Mb,Mc,Md,Me,Mf,Mg,Mh,Mi,Mj,Mk,Ml,Mm,Mn,Mo,Mp,Mq,Mr,Ms,Mt,Mu,Mv,Mw,Mx,My,Mz,Na,Nb,Nc,Nd,Ne,Nf,Ng,Nh,Ni,Nj,Nk,Nl,Nm,Nn,No,Np],[]⟩ S (fun v S1 => v = (.agg p.1) ∧ S1 = p.2)) {y0 : (Option HA)} {y1 : (Option HA)} {y2 : Int} {y3 : Bool} {y4 : Bool} {y5 : Int} {y25 : Bool} {S : HS} {p : ((List HV)) × HS} {Gg Gh Gi Gj Gk Gl Gm Gn Go Gp Gq Gr Gs Gt Gu Gv Gw Gx Gy Ka Kb Kc Kd Ke Kf Kg Kh Ki Kj Kk Kl Km Kn Ko Kp Kq Kr Ks Kt Ku Kv Kw Kx Ky Kz Ma Mb Mc Md Me Mf Mg Mh Mi Mj Mk Ml Mm Mn Mo Mp Mq Mr Ms Mt Mu Mv Mw Mx My Mz Na Nb Nc Nd Ne Nf Ng Nh Ni Nj Nk Nl Nm Nn No Np : HV} (h : J3 k rec0 y0 y1 y2 y3 y4 y5 y25 S = some p) : HRun Tryz.prog base W0 β0 78 none [.code c26,.code c29,.inBlock 1,.code c64,.inLoop c9,.inBlock 0,.code c65] ⟨[(.ptr y0),(.ptr y1),(.int .i64 y2),(.bool y3),(.bool y4),(.int .i64 y5),Gg,Gh,Gi,Gj,Gk,Gl,Gm,Gn,Go,Gp,Gq,Gr,Gs,Gt,Gu,Gv,Gw,Gx,Gy,(.bool y25),Ka,Kb,Kc,Kd,Ke,Kf,Kg,Kh,Ki,Kj,Kk,Kl,Km,Kn,Ko,Kp,Kq,Kr,Ks,Kt,Ku,Kv,Kw,Kx,Ky,Kz,Ma,Mb,Mc,Md,Me,Mf,Mg,Mh,Mi,Mj,Mk,Ml,Mm,Mn,Mo,Mp,Mq,Mr,Ms,Mt,Mu,Mv,Mw,Mx,My,Mz,Na,Nb,Nc,Nd,Ne,Nf,Ng,Nh,Ni,Nj,Nk,Nl,Nm,Nn,No,Np],[]⟩ S (fun v S1 => v = (.agg p.1) ∧ S1 = p.2) := by
 unfold J3 at h
 rcases ifc h with ⟨hc8,h⟩ | ⟨hc8,h⟩
 ·obtain ⟨p9,hp9,h⟩ := bindo h
  obtain ⟨hg10,h⟩ := gd h
  obtain ⟨p11,hp11,h⟩ := bindo h
  refine q_cond_t rfl (.tmp rfl) hc8 (qR rfl rfl (qS 26 rfl (oM · rfl) (qS 27 rfl (ok_indexAddr_arr · ta156 sz155 (.tmp rfl) hp9 (.tmp rfl) hg10) (qS 28 rfl (oL · sc155 rfl rfl (ldI_out hp11)) (qS 29 rfl (oC · rfl rfl) ?_)))))
  try dsimp only [w0,w1,w2,w3]
  obtain ⟨p12,hp12,h⟩ := bindo h
  obtain ⟨hg13,h⟩ := gd h
  obtain ⟨p14,hp14,h⟩ := bindo h
  refine qS 30 rfl (ok_indexAddr_arr · ta156 sz155 (.tmp rfl) hp12 (.tmp rfl) hg13) (qN rfl (ok_store_s (v := (.int .u16 (ior .u16 p11 3))) · sz155 (.tmp rfl) rfl (.tmp rfl) rfl hp14) (rE ?_))
  try dsimp only [w0,w1,w2,w3]
  try dsimp only [w0,w1,w2,w3]
  exact J4_snd hrec0 h
 ·refine q_cond_f rfl (.tmp rfl) (bfalse hc8) (q_skipc rfl ?_)
  try dsimp only [w0,w1,w2,w3]
  exact J4_snd hrec0 h
def J2 (k : Nat) (rec0 : (Option HA) → (Option HA) → Int → HS → Option (((List HV)) × HS)) (y0 : (Option HA)) (y1 : (Option HA)) (y2 : Int) (y3 : Bool) (y5 : Int) (y19 : Bool) (S : HS) : Option (((List HV)) × HS) :=
 (Option.bind (valid_letter.f y2) fun p6 =>
 (if p6 = true then
 J3 k rec0 y0 y1 y2 y3 y19 y5 true S else
 (Option.bind (valid_has.f ([91,93,92,95,94,123,124,125,96] : List UInt8) y2) fun p67 =>
 J3 k rec0 y0 y1 y2 y3 y19 y5 p67 S)))
theorem J2_snd {k : Nat} {rec0 : (Option HA) → (Option HA) → Int → HS → Option (((List HV)) × HS)} (hrec0 : ∀ ⦃y0 : (Option HA)⦄ ⦃y1 : (Option HA)⦄ ⦃y5 : Int⦄ ⦃S : HS⦄ ⦃p : ((List HV)) × HS⦄ ⦃Gc Gd Ge Gg Gh Gi Gj Gk Gl Gm Gn Go Gp Gq Gr Gs Gt Gu Gv Gw Gx Gy Gz Ka Kb Kc Kd Ke Kf Kg Kh Ki Kj Kk Kl Km Kn Ko Kp Kq Kr Ks Kt Ku Kv Kw Kx Ky Kz Ma Mb Mc Md Me Mf Mg Mh Mi Mj Mk Ml Mm Mn Mo Mp Mq Mr Ms Mt Mu Mv Mw Mx My Mz Na Nb Nc Nd Ne Nf Ng Nh Ni Nj Nk Nl Nm Nn No Np : HV⦄,rec0 y0 y1 y5 S = some p → HRun Tryz.prog base W0 β0 78 none [.inLoop c9,.inBlock 0,.code c65] ⟨[(.ptr y0),(.ptr y1),Gc,Gd,Ge,(.int .i64 y5),Gg,Gh,Gi,Gj,Gk,Gl,Gm,Gn,Go,Gp,Gq,Gr,Gs,Gt,Gu,Gv,Gw,Gx,Gy,Gz,Ka,Kb,Kc,Kd,Ke,Kf,Kg,Kh,Ki,Kj,Kk,Kl,Km,Kn,Ko,Kp,Kq,Kr,Ks,Kt,Ku,Kv,Kw,Kx,Ky,Kz,Ma,Mb,Mc,Md,Me,Mf,Mg,Mh,Mi,Mj,Mk,Ml,Mm,Mn,Mo,Mp,Mq,Mr,Ms,Mt,Mu,Mv,Mw,Mx,My,Mz,Na,Nb,Nc,Nd,Ne,Nf,Ng,Nh,Ni,Nj,Nk,Nl,Nm,Nn,No,Np],[]⟩ S (fun v S1 => v = (.agg p.1) ∧ S1 = p.2)) {y0 : (Option HA)} {y1 : (Option HA)} {y2 : Int} {y3 : Bool} {y5 : Int} {y19 : Bool} {S : HS} {p : ((List HV)) × HS} {Ge Gg Gh Gi Gj Gk Gl Gm Gn Go Gp Gq Gr Gs Gu Gv Gw Gx Gy Gz Ka Kb Kc Kd Ke Kf Kg Kh Ki Kj Kk Kl Km Kn Ko Kp Kq Kr Ks Kt Ku Kv Kw Kx Ky Kz Ma Mb Mc Md Me Mf Mg Mh Mi Mj Mk Ml Mm Mn Mo Mp Mq Mr Ms Mt Mu Mv Mw Mx My Mz Na Nb Nc Nd Ne Nf Ng Nh Ni Nj Nk Nl Nm Nn No Np : HV} (h : J2 k rec0 y0 y1 y2 y3 y5 y19 S = some p) : HRun Tryz.prog base W0 β0 78 none [.inRegion r22 [6],.code c23,.inBlock 1,.code c64,.inLoop c9,.inBlock 0,.code c65] ⟨[(.ptr y0),(.ptr y1),(.int .i64 y2),(.bool y3),Ge,(.int .i64 y5),Gg,Gh,Gi,Gj,Gk,Gl,Gm,Gn,Go,Gp,Gq,Gr,Gs,(.bool y19),Gu,Gv,Gw,Gx,Gy,Gz,Ka,Kb,Kc,Kd,Ke,Kf,Kg,Kh,Ki,Kj,Kk,Kl,Km,Kn,Ko,Kp,Kq,Kr,Ks,Kt,Ku,Kv,Kw,Kx,Ky,Kz,Ma,Mb,Mc,Md,Me,Mf,Mg,Mh,Mi,Mj,Mk,Ml,Mm,Mn,Mo,Mp,Mq,Mr,Ms,Mt,Mu,Mv,Mw,Mx,My,Mz,Na,Nb,Nc,Nd,Ne,Nf,Ng,Nh,Ni,Nj,Nk,Nl,Nm,Nn,No,Np],[]⟩ S (fun v S1 => v = (.agg p.1) ∧ S1 = p.2) := by
 unfold J2 at h
 refine qS 4 rfl (oA · rfl) (rE ?_)
 try dsimp only [w0,w1,w2,w3]
 obtain ⟨p6,hp6,h⟩ := bindo h
 refine qQ rfl (qQ rfl (qR rfl rfl (qS 20 rfl (oM · rfl) (q_call (dst := some 21) rfl (.func _) (.cons (.tmp rfl) Evs.nil) (HInv.static valid_letter.at_ valid_letter.body (valid_letter.snd  hp6)) ?_))))
 rintro _ _ ⟨rfl,rfl⟩
 refine qS 22 rfl (oM · rfl) ?_
 rcases ifc h with ⟨hc7,h⟩ | ⟨hc7,h⟩
 ·refine q_skip (dst := some 23) (t := 22) rfl rfl rfl hc7 ?_
  try dsimp only [w0,w1,w2,w3]
  refine q_skip (dst := some 24) (t := 22) rfl rfl rfl hc7 (qS 25 rfl (ok_pick_tt · (.tmp rfl) hc7 (.bool _)) (rE ?_))
  try dsimp only [w0,w1,w2,w3]
  try dsimp only [w0,w1,w2,w3]
  exact J3_snd hrec0 h
 ·refine qG 22 23 rfl (bfalse hc7) (oM · rfl) ?_
  try dsimp only [w0,w1,w2,w3]
  obtain ⟨p67,hp67,h⟩ := bindo h
  refine q_call_g (t := 22) (dst := some 24) rfl rfl rfl (bfalse hc7) (.func _) (.cons (.str _) (.cons (.tmp rfl) Evs.nil)) (HInv.static valid_has.at_ valid_has.body (valid_has.snd  hp67)) ?_
  rintro _ _ ⟨rfl,rfl⟩
  refine qS 25 rfl (ok_pick_ff · (.tmp rfl) (bfalse hc7) (.tmp rfl)) (rE ?_)
  try dsimp only [w0,w1,w2,w3]
  try dsimp only [w0,w1,w2,w3]
  exact J3_snd hrec0 h
def J1 (k : Nat) (rec0 : (Option HA) → (Option HA) → Int → HS → Option (((List HV)) × HS)) (y0 : (Option HA)) (y1 : (Option HA)) (y2 : Int) (y5 : Int) (y13 : Bool) (S : HS) : Option (((List HV)) × HS) :=
 (if y2 ≥ 33 then
 J2 k rec0 y0 y1 y2 y13 y5 (decide (y2 ≤ 126)) S else
 J2 k rec0 y0 y1 y2 y13 y5 false S)
theorem J1_snd {k : Nat} {rec0 : (Option HA) → (Option HA) → Int → HS → Option (((List HV)) × HS)} (hrec0 : ∀ ⦃y0 : (Option HA)⦄ ⦃y1 : (Option HA)⦄ ⦃y5 : Int⦄ ⦃S : HS⦄ ⦃p : ((List HV)) × HS⦄ ⦃Gc Gd Ge Gg Gh Gi Gj Gk Gl Gm Gn Go Gp Gq Gr Gs Gt Gu Gv Gw Gx Gy Gz Ka Kb Kc Kd Ke Kf Kg Kh Ki Kj Kk Kl Km Kn Ko Kp Kq Kr Ks Kt Ku Kv Kw Kx Ky Kz Ma Mb Mc Md Me Mf Mg Mh Mi Mj Mk Ml Mm Mn Mo Mp Mq Mr Ms Mt Mu Mv Mw Mx My Mz Na Nb Nc Nd Ne Nf Ng Nh Ni Nj Nk Nl Nm Nn No Np : HV⦄,rec0 y0 y1 y5 S = some p → HRun Tryz.prog base W0 β0 78 none [.inLoop c9,.inBlock 0,.code c65] ⟨[(.ptr y0),(.ptr y1),Gc,Gd,Ge,(.int .i64 y5),Gg,Gh,Gi,Gj,Gk,Gl,Gm,Gn,Go,Gp,Gq,Gr,Gs,Gt,Gu,Gv,Gw,Gx,Gy,Gz,Ka,Kb,Kc,Kd,Ke,Kf,Kg,Kh,Ki,Kj,Kk,Kl,Km,Kn,Ko,Kp,Kq,Kr,Ks,Kt,Ku,Kv,Kw,Kx,Ky,Kz,Ma,Mb,Mc,Md,Me,Mf,Mg,Mh,Mi,Mj,Mk,Ml,Mm,Mn,Mo,Mp,Mq,Mr,Ms,Mt,Mu,Mv,Mw,Mx,My,Mz,Na,Nb,Nc,Nd,Ne,Nf,Ng,Nh,Ni,Nj,Nk,Nl,Nm,Nn,No,Np],[]⟩ S (fun v S1 => v = (.agg p.1) ∧ S1 = p.2)) {y0 : (Option HA)} {y1 : (Option HA)} {y2 : Int} {y5 : Int} {y13 : Bool} {S : HS} {p : ((List HV)) × HS} {Gd Ge Gg Gh Gi Gj Gk Gl Gm Go Gp Gq Gr Gs Gt Gu Gv Gw Gx Gy Gz Ka Kb Kc Kd Ke Kf Kg Kh Ki Kj Kk Kl Km Kn Ko Kp Kq Kr Ks Kt Ku Kv Kw Kx Ky Kz Ma Mb Mc Md Me Mf Mg Mh Mi Mj Mk Ml Mm Mn Mo Mp Mq Mr Ms Mt Mu Mv Mw Mx My Mz Na Nb Nc Nd Ne Nf Ng Nh Ni Nj Nk Nl Nm Nn No Np : HV} (h : J1 k rec0 y0 y1 y2 y5 y13 S = some p) : HRun Tryz.prog base W0 β0 78 none [.inRegion r20 [6],.code c21,.inBlock 1,.code c64,.inLoop c9,.inBlock 0,.code c65] ⟨[(.ptr y0),(.ptr y1),(.int .i64 y2),Gd,Ge,(.int .i64 y5),Gg,Gh,Gi,Gj,Gk,Gl,Gm,(.bool y13),Go,Gp,Gq,Gr,Gs,Gt,Gu,Gv,Gw,Gx,Gy,Gz,Ka,Kb,Kc,Kd,Ke,Kf,Kg,Kh,Ki,Kj,Kk,Kl,Km,Kn,Ko,Kp,Kq,Kr,Ks,Kt,Ku,Kv,Kw,Kx,Ky,Kz,Ma,Mb,Mc,Md,Me,Mf,Mg,Mh,Mi,Mj,Mk,Ml,Mm,Mn,Mo,Mp,Mq,Mr,Ms,Mt,Mu,Mv,Mw,Mx,My,Mz,Na,Nb,Nc,Nd,Ne,Nf,Ng,Nh,Ni,Nj,Nk,Nl,Nm,Nn,No,Np],[]⟩ S (fun v S1 => v = (.agg p.1) ∧ S1 = p.2) := by
 unfold J1 at h
 refine qS 3 rfl (oA · rfl) (rE ?_)
 try dsimp only [w0,w1,w2,w3]
 refine qQ rfl (qR rfl rfl (qS 14 rfl (oM · rfl) (qS 15 rfl (oC · rfl rfl) (qS 16 rfl (oM · rfl) ?_))))
 rcases ifc h with ⟨hc5,h⟩ | ⟨hc5,h⟩
 ·refine qG 16 17 rfl (decide_eq_true hc5) (oM · rfl) ?_
  try dsimp only [w0,w1,w2,w3]
  refine qG 16 18 rfl (decide_eq_true hc5) (oC · rfl rfl) (qS 19 rfl (ok_pick_tt · (.tmp rfl) (decide_eq_true hc5) (.tmp rfl)) ?_)
  try dsimp only [w0,w1,w2,w3]
  exact J2_snd hrec0 h
 ·refine q_skip (dst := some 17) (t := 16) rfl rfl rfl (decide_eq_false hc5) ?_
  try dsimp only [w0,w1,w2,w3]
  refine q_skip (dst := some 18) (t := 16) rfl rfl rfl (decide_eq_false hc5) (qS 19 rfl (ok_pick_ff · (.tmp rfl) (decide_eq_false hc5) (.bool _)) ?_)
  try dsimp only [w0,w1,w2,w3]
  exact J2_snd hrec0 h
def L0 (k : Nat) : Nat → (Option HA) → (Option HA) → Int → HS → Option (((List HV)) × HS)
 | 0,_,_,_,_ => none
 | n + 1,y0,y1,y5,S =>
  (if y5 < 256 then
  (if y5 ≥ 48 then
  J1 k (L0 k n) y0 y1 y5 y5 (decide (y5 ≤ 57)) S else
  J1 k (L0 k n) y0 y1 y5 y5 false S) else
  (Option.bind (y1) fun p68 =>
  (Option.bind (HS.gets S p68 256) fun p69 =>
  (Option.bind (y0) fun p70 =>
  (if List.length p69 = 256 ∧ List.all p69 HV.flat = true then
  (Option.bind (HS.sets S p70 p69) fun p72 =>
  (Option.bind (y0) fun p73 =>
  (Option.bind (HS.gets p72 p73 256) fun p74 =>
  some (p74,p72)))) else none)))))
theorem L0_snd {k : Nat}  : ∀ {n : Nat} ⦃y0 : (Option HA)⦄ ⦃y1 : (Option HA)⦄ ⦃y5 : Int⦄ ⦃S : HS⦄ ⦃p : ((List HV)) × HS⦄ ⦃Gc Gd Ge Gg Gh Gi Gj Gk Gl Gm Gn Go Gp Gq Gr Gs Gt Gu Gv Gw Gx Gy Gz Ka Kb Kc Kd Ke Kf Kg Kh Ki Kj Kk Kl Km Kn Ko Kp Kq Kr Ks Kt Ku Kv Kw Kx Ky Kz Ma Mb Mc Md Me Mf Mg Mh Mi Mj Mk Ml Mm Mn Mo Mp Mq Mr Ms Mt Mu Mv Mw Mx My Mz Na Nb Nc Nd Ne Nf Ng Nh Ni Nj Nk Nl Nm Nn No Np : HV⦄,L0 k n y0 y1 y5 S = some p → HRun Tryz.prog base W0 β0 78 none [.inLoop c9,.inBlock 0,.code c65] ⟨[(.ptr y0),(.ptr y1),Gc,Gd,Ge,(.int .i64 y5),Gg,Gh,Gi,Gj,Gk,Gl,Gm,Gn,Go,Gp,Gq,Gr,Gs,Gt,Gu,Gv,Gw,Gx,Gy,Gz,Ka,Kb,Kc,Kd,Ke,Kf,Kg,Kh,Ki,Kj,Kk,Kl,Km,Kn,Ko,Kp,Kq,Kr,Ks,Kt,Ku,Kv,Kw,Kx,Ky,Kz,Ma,Mb,Mc,Md,Me,Mf,Mg,Mh,Mi,Mj,Mk,Ml,Mm,Mn,Mo,Mp,Mq,Mr,Ms,Mt,Mu,Mv,Mw,Mx,My,Mz,Na,Nb,Nc,Nd,Ne,Nf,Ng,Nh,Ni,Nj,Nk,Nl,Nm,Nn,No,Np],[]⟩ S (fun v S1 => v = (.agg p.1) ∧ S1 = p.2) := by
 intro n
 induction n with
 | zero => intro _ _ _ _ _ _ _ _ _ _ _ _ _ _ _ _ _ _ _ _ _ _ _ _ _ _ _ _ _ _ _ _ _ _ _ _ _ _ _ _ _ _ _ _ _ _ _ _ _ _ _ _ _ _ _ _ _ _ _ _ _ _ _ _ _ _ _ _ _ _ _ _ _ _ _ _ _ _ _ _ _ _ _ _ _ _ _ _ _ _ _ _ _ _ _ _ h; cases h
 | succ n ih =>
  intro y0 y1 y5 S p Gc Gd Ge Gg Gh Gi Gj Gk Gl Gm Gn Go Gp Gq Gr Gs Gt Gu Gv Gw Gx Gy Gz Ka Kb Kc Kd Ke Kf Kg Kh Ki Kj Kk Kl Km Kn Ko Kp Kq Kr Ks Kt Ku Kv Kw Kx Ky Kz Ma Mb Mc Md Me Mf Mg Mh Mi Mj Mk Ml Mm Mn Mo Mp Mq Mr Ms Mt Mu Mv Mw Mx My Mz Na Nb Nc Nd Ne Nf Ng Nh Ni Nj Nk Nl Nm Nn No Np h
  simp only [L0] at h
  refine hr_inLoop (qQ rfl (qR rfl rfl (qS 6 rfl (oC · rfl rfl) (rE ?_))))
  try dsimp only [w0,w1,w2,w3]
  refine qQ rfl ?_
  rcases ifc h with ⟨hc3,h⟩ | ⟨hc3,h⟩
  ·refine q_cond_t rfl (.tmp rfl) (decide_eq_true hc3) (q_skipc rfl (qQ rfl (q_block rfl (qQ rfl (qR rfl rfl (qS 7 rfl (oM · rfl) (qS 2 rfl (oA · rfl) (rE ?_))))))))
   try dsimp only [w0,w1,w2,w3]
   refine qQ rfl (qR rfl rfl (qS 8 rfl (oM · rfl) (qS 9 rfl (oC · rfl rfl) (qS 10 rfl (oM · rfl) ?_))))
   rcases ifc h with ⟨hc4,h⟩ | ⟨hc4,h⟩
   ·refine qG 10 11 rfl (decide_eq_true hc4) (oM · rfl) ?_
    try dsimp only [w0,w1,w2,w3]
    refine qG 10 12 rfl (decide_eq_true hc4) (oC · rfl rfl) (qS 13 rfl (ok_pick_tt · (.tmp rfl) (decide_eq_true hc4) (.tmp rfl)) ?_)
    try dsimp only [w0,w1,w2,w3]
    exact J1_snd ih h
   ·refine q_skip (dst := some 11) (t := 10) rfl rfl rfl (decide_eq_false hc4) ?_
    try dsimp only [w0,w1,w2,w3]
    refine q_skip (dst := some 12) (t := 10) rfl rfl rfl (decide_eq_false hc4) (qS 13 rfl (ok_pick_ff · (.tmp rfl) (decide_eq_false hc4) (.bool _)) ?_)
    try dsimp only [w0,w1,w2,w3]
    exact J1_snd ih h
  ·obtain ⟨p68,hp68,h⟩ := bindo h
   obtain ⟨p69,hp69,h⟩ := bindo h
   obtain ⟨p70,hp70,h⟩ := bindo h
   obtain ⟨hg71,h⟩ := gd h
   obtain ⟨p72,hp72,h⟩ := bindo h
   refine q_cond_f rfl (.tmp rfl) (decide_eq_false hc3) (q_exit rfl rfl (qQ rfl (qR rfl rfl (qS 93 rfl (ok_load_arr · ia156 (.tmp rfl) hp68 hp69) (qN rfl (ok_store_arr · sz156 (.tmp rfl) hp70 (.tmp rfl) hg71 hp72) (rE ?_))))))
   try dsimp only [w0,w1,w2,w3]
   obtain ⟨p73,hp73,h⟩ := bindo h
   obtain ⟨p74,hp74,h⟩ := bindo h
   cases h
   exact q_ret rfl at_.at_ rfl (resL1 rfl (ResAt.arr rfl hp73 ia156 (by decide) hp74)) ⟨rfl,rfl⟩
def f (k : Nat) (S : HS) : Option (((List HV)) × HS) :=
 (letv (HS.new S (.cells 256 [List.replicate 256 (.int .u16 0)] true)) fun p1 =>
 (letv (HS.new p1 (.cells 256 [List.replicate 256 (.int .u16 0)] true)) fun p2 =>
 L0 k k (some (HA.cell0 S.next)) (some (HA.cell0 p1.next)) 0 p2))
theorem snd {k : Nat} {S : HS}  {p : ((List HV)) × HS} (h : f k S = some p) : HCall Tryz.prog base W0 β0 78 [] S (fun v S1 => v = (.agg p.1) ∧ S1 = p.2) := by
 unfold f at h
 refine HCall.of_run at_.at_ body ?_
 show HRun Tryz.prog base W0 β0 78 none [.code c0] ⟨[τ,τ,τ,τ,τ,τ,τ,τ,τ,τ,τ,τ,τ,τ,τ,τ,τ,τ,τ,τ,τ,τ,τ,τ,τ,τ,τ,τ,τ,τ,τ,τ,τ,τ,τ,τ,τ,τ,τ,τ,τ,τ,τ,τ,τ,τ,τ,τ,τ,τ,τ,τ,τ,τ,τ,τ,τ,τ,τ,τ,τ,τ,τ,τ,τ,τ,τ,τ,τ,τ,τ,τ,τ,τ,τ,τ,τ,τ,τ,τ,τ,τ,τ,τ,τ,τ,τ,τ,τ,τ,τ,τ,τ,τ],[]⟩ S _
 obtain ⟨p1,hp1,h⟩ := leto h
 refine qQ rfl (qR rfl rfl (qS 0 rfl (ok_alloc_arr · za156 (fun β => .int _ _) (by decide) rfl hp1) (rE ?_)))
 try dsimp only [w0,w1,w2,w3]
 obtain ⟨p2,hp2,h⟩ := leto h
 refine qQ rfl (qR rfl rfl (qS 1 rfl (ok_alloc_arr · za156 (fun β => .int _ _) (by decide) rfl hp2) (rE ?_)))
 try dsimp only [w0,w1,w2,w3]
 refine qQ rfl (qQ rfl (qR rfl rfl (qS 5 rfl (ok_move · (.int _ _)) (rE ?_))))
 try dsimp only [w0,w1,w2,w3]
 refine q_block rfl (q_loop rfl ?_)
 try dsimp only [w0,w1,w2,w3]
 exact L0_snd  h
end
end valid_kinds
namespace strings_Builder_Len
theorem at_ : FnAt Tryz.prog 79 Tryz.f79 := ⟨Tryz.func79,by kernel_rfl⟩
noncomputable def d0 := (Tryz.f79.body).getD .skip
noncomputable def r1 := kR (kA d0)
noncomputable def r3 := kR (kA (kB d0))
noncomputable def c0 : Code := .seq (.region 0 r1 false) (.seq (.region 1 r3 false) .ret)
theorem body : Tryz.f79.body = some c0 := by kernel_rfl
section
variable {base : Nat} {W0 : Env} {β0 : Bt}
def f (x0 : (Option HA)) (S : HS) : Option ((Int) × HS) :=
 (Option.bind (x0) fun p1 =>
 (Option.bind (HS.ldSl S (HA.fld p1 1)) fun p2 =>
 some ((Sl.len p2 : Int),S)))
theorem snd {x0 : (Option HA)} {S : HS}  {p : (Int) × HS} (h : f x0 S = some p) : HCall Tryz.prog base W0 β0 79 [(.ptr x0)] S (fun v S1 => v = (.int .i64 p.1) ∧ S1 = p.2) := by
 unfold f at h
 refine HCall.of_run at_.at_ body ?_
 show HRun Tryz.prog base W0 β0 79 none [.code c0] ⟨[(.ptr x0),τ,τ,τ,τ,τ,τ,τ],[]⟩ S _
 refine qQ rfl (qR rfl rfl (qS 2 rfl (ok_assign · (.int _ _)) (rE ?_)))
 try dsimp only [w0,w1,w2,w3]
 obtain ⟨p1,hp1,h⟩ := bindo h
 obtain ⟨p2,hp2,h⟩ := bindo h
 refine qQ rfl (qR rfl rfl (qS 3 rfl (oM · rfl) (qS 4 rfl (oN · rfl hp1) (qS 5 rfl (oF · fi160_1 (by decide) rfl rfl) (qS 6 rfl (oL · sc49 rfl rfl (ldSl_out hp2)) ?_)))))
 try dsimp only [w0,w1,w2,w3]
 refine qS 7 rfl (ok_len_sl (q := Sl.a p2) (n := Sl.len p2) (z := Sl.cap p2) · rfl tu49 (.tmp rfl)) (qS 2 rfl (oA · rfl) (rE ?_))
 try dsimp only [w0,w1,w2,w3]
 cases h
 exact q_ret rfl at_.at_ rfl (res1 rfl rfl) ⟨rfl,rfl⟩
end
end strings_Builder_Len
namespace strings_Builder_copyCheck
theorem at_ : FnAt Tryz.prog 145 Tryz.f145 := ⟨Tryz.func145,by kernel_rfl⟩
noncomputable def d0 := (Tryz.f145.body).getD .skip
noncomputable def r1 := kR (kA d0)
noncomputable def r3 := kR (kA (kB d0))
noncomputable def r5 := kR (kA (kB (kB d0)))
noncomputable def c0 : Code := .seq (.region 0 r1 false) (.cond (.tmp 6) (.region 1 r3 false) (.seq (.region 2 r5 false) (.cond (.tmp 19) (kA (kB (kB (kB d0)))) .skip)))
theorem body : Tryz.f145.body = some c0 := by kernel_rfl
section
variable {base : Nat} {W0 : Env} {β0 : Bt}
def J0  (S : HS) : Option ((Unit) × HS) :=
 some ((),S)
theorem J0_snd   {S : HS} {p : (Unit) × HS} {Ga Gb Gc Gd Ge Gf Gg Gh Gi Gj Gk Gl Gm Gn Go Gp Gq Gr Gs Gt : HV} (h : J0  S = some p) : HRun Tryz.prog base W0 β0 145 none [] ⟨[Ga,Gb,Gc,Gd,Ge,Gf,Gg,Gh,Gi,Gj,Gk,Gl,Gm,Gn,Go,Gp,Gq,Gr,Gs,Gt],[]⟩ S (fun v S1 => v = (.tup []) ∧ S1 = p.2) := by
 unfold J0 at h
 cases h
 exact q_end at_.at_ rfl (res0 rfl) ⟨rfl,rfl⟩
def f (x0 : (Option HA)) (S : HS) : Option ((Unit) × HS) :=
 (Option.bind (x0) fun p1 =>
 (Option.bind (HS.ldP S (HA.fld p1 0)) fun p2 =>
 (if (Option.isNone p2) = true then
 (if HS.spot S x0 = true then
 (if HS.spotT S x0 160 2 = true then
 (Option.bind (x0) fun p6 =>
 (Option.bind (HS.sets S (HA.fld p6 0) [(.ptr x0)]) fun p7 =>
 J0 p7)) else none) else none) else
 (Option.bind (x0) fun p8 =>
 (Option.bind (HS.ldP S (HA.fld p8 0)) fun p9 =>
 (Option.bind (pEq p9 x0) fun p10 =>
 (if (!p10) = true then
 none else
 J0 S)))))))
theorem snd {x0 : (Option HA)} {S : HS}  {p : (Unit) × HS} (h : f x0 S = some p) : HCall Tryz.prog base W0 β0 145 [(.ptr x0)] S (fun v S1 => v = (.tup []) ∧ S1 = p.2) := by
 unfold f at h
 refine HCall.of_run at_.at_ body ?_
 show HRun Tryz.prog base W0 β0 145 none [.code c0] ⟨[(.ptr x0),τ,τ,τ,τ,τ,τ,τ,τ,τ,τ,τ,τ,τ,τ,τ,τ,τ,τ,τ],[]⟩ S _
 obtain ⟨p1,hp1,h⟩ := bindo h
 obtain ⟨p2,hp2,h⟩ := bindo h
 refine qQ rfl (qR rfl rfl (qS 2 rfl (oM · rfl) (qS 3 rfl (oN · rfl hp1) (qS 4 rfl (oF · fi160_0 (by decide) rfl rfl) (qS 5 rfl (oL · sc158 rfl rfl (ldP_out hp2)) ?_)))))
 try dsimp only [w0,w1,w2,w3]
 refine qS 6 rfl (ok_nil_ptr · tu158 (.tmp rfl) (.inl ⟨rfl,rfl⟩)) (rE ?_)
 try dsimp only [w0,w1,w2,w3]
 rcases ifc h with ⟨hc3,h⟩ | ⟨hc3,h⟩
 ·obtain ⟨hg4,h⟩ := gd h
  refine q_cond_t rfl (.tmp rfl) hc3 (qR rfl rfl (qS 7 rfl (oM · rfl) (qS 8 rfl (oM · rfl) (qS 9 rfl (ok_toUnsafe · tu158 tu297 nz160 (.tmp rfl) hg4) (qS 10 rfl (ok_noEscape · ext205 (.tmp rfl)) ?_)))))
  try dsimp only [w0,w1,w2,w3]
  obtain ⟨hg5,h⟩ := gd h
  obtain ⟨p6,hp6,h⟩ := bindo h
  obtain ⟨p7,hp7,h⟩ := bindo h
  refine qS 11 rfl (ok_fromUnsafe (z := 2) · tu297 tu158 ih160 cz160 (cz160 ▸ by decide) (.tmp rfl) hg5) (qS 12 rfl (oN · rfl hp6) (qS 13 rfl (oF · fi160_0 (by decide) rfl rfl) (qN rfl (ok_store_s (v := (.ptr x0)) · sz158 (.tmp rfl) rfl (.tmp rfl) rfl hp7) (rE ?_))))
  try dsimp only [w0,w1,w2,w3]
  try dsimp only [w0,w1,w2,w3]
  exact J0_snd  h
 ·obtain ⟨p8,hp8,h⟩ := bindo h
  obtain ⟨p9,hp9,h⟩ := bindo h
  refine q_cond_f rfl (.tmp rfl) (bfalse hc3) (qQ rfl (qR rfl rfl (qS 14 rfl (oM · rfl) (qS 15 rfl (oN · rfl hp8) (qS 16 rfl (oF · fi160_0 (by decide) rfl rfl) (qS 17 rfl (oL · sc158 rfl rfl (ldP_out hp9)) ?_))))))
  try dsimp only [w0,w1,w2,w3]
  obtain ⟨p10,hp10,h⟩ := bindo h
  refine qS 18 rfl (oM · rfl) (qS 19 rfl (ok_ptr_eq · tu158 ih160 (.tmp rfl) (.tmp rfl) hp10 (.inr ⟨rfl,rfl⟩)) (rE ?_))
  try dsimp only [w0,w1,w2,w3]
  rcases ifc h with ⟨hc11,h⟩ | ⟨hc11,h⟩
  ·refine q_cond_t rfl (.tmp rfl) hc11 ?_
   cases h
  ·refine q_cond_f rfl (.tmp rfl) (bfalse hc11) (q_skipc rfl ?_)
   try dsimp only [w0,w1,w2,w3]
   exact J0_snd  h
end
end strings_Builder_copyCheck
namespace strings_Builder_WriteByte
theorem at_ : FnAt Tryz.prog 80 Tryz.f80 := ⟨Tryz.func80,by kernel_rfl⟩
noncomputable def d0 := (Tryz.f80.body).getD .skip
noncomputable def r1 := kR (kA d0)
noncomputable def r3 := kR (kA (kB d0))
noncomputable def r5 := kR (kA (kB (kB d0)))
noncomputable def r7 := kR (kA (kB (kB (kB d0))))
noncomputable def c0 : Code := .seq (.region 0 r1 false) (.seq (.region 1 r3 false) (.seq (.region 2 r5 false) (.seq (.region 3 r7 false) .ret)))
theorem body : Tryz.f80.body = some c0 := by kernel_rfl
section
variable {base : Nat} {W0 : Env} {β0 : Bt}
def f (x0 : (Option HA)) (x1 : Int) (S : HS) : Option ((HV) × HS) :=
 (Option.bind (strings_Builder_copyCheck.f x0 S) fun p1 =>
 (Option.bind (x0) fun p2 =>
 (Option.bind (HS.ldSl p1.2 (HA.fld p2 1)) fun p3 =>
 (letv (HS.lit p1.2 [[(.int .u8 x1)]] 1) fun p4 =>
 (Option.bind (HS.rows (p4.2) (p4.1) 1) fun p5 =>
 (Option.bind (HS.appT (p4.2) p3 p5 1 5) fun p6 =>
 (Option.bind (x0) fun p7 =>
 (Option.bind (HS.sets (p6.2) (HA.fld p7 1) [(Sl.hv (p6.1))]) fun p8 =>
 some (HV.nilIf,p8)))))))))
theorem snd {x0 : (Option HA)} {x1 : Int} {S : HS}  {p : (HV) × HS} (h : f x0 x1 S = some p) : HCall Tryz.prog base W0 β0 80 [(.ptr x0),(.int .u8 x1)] S (fun v S1 => v = p.1 ∧ S1 = p.2) := by
 unfold f at h
 refine HCall.of_run at_.at_ body ?_
 show HRun Tryz.prog base W0 β0 80 none [.code c0] ⟨[(.ptr x0),(.int .u8 x1),τ,τ,τ,τ,τ,τ,τ,τ,τ,τ,τ,τ,τ,τ,τ],[]⟩ S _
 refine qQ rfl (qR rfl rfl (qS 4 rfl (ok_assign · (.const fun _ => .nilIf)) (rE ?_)))
 try dsimp only [w0,w1,w2,w3]
 obtain ⟨p1,hp1,h⟩ := bindo h
 refine qQ rfl (qR rfl rfl (qS 5 rfl (oM · rfl) (q_call (dst := some 6) rfl (.func _) (.cons (.tmp rfl) Evs.nil) (HInv.static strings_Builder_copyCheck.at_ strings_Builder_copyCheck.body (strings_Builder_copyCheck.snd  hp1)) ?_)))
 rintro _ _ ⟨rfl,rfl⟩
 refine rE ?_
 try dsimp only [w0,w1,w2,w3]
 obtain ⟨p2,hp2,h⟩ := bindo h
 refine qQ rfl (qR rfl rfl (qS 7 rfl (oM · rfl) (qS 8 rfl (oM · rfl) (qS 9 rfl (oN · rfl hp2) (qS 10 rfl (oF · fi160_1 (by decide) rfl rfl) ?_)))))
 try dsimp only [w0,w1,w2,w3]
 obtain ⟨p3,hp3,h⟩ := bindo h
 obtain ⟨p4,hp4,h⟩ := leto h
 obtain ⟨p5,hp5,h⟩ := bindo h
 obtain ⟨p6,hp6,h⟩ := bindo h
 refine qS 11 rfl (oL · sc49 rfl rfl (ldSl_out hp3)) (qS 12 rfl (oM · rfl) (qS 13 rfl (ok_buildSlice_s (xs := [(.tmp 12)]) el49 · rfl rfl (by decide) (.cons (.tmp rfl) Evs.nil) rfl rfl hp4) (qS 14 rfl (ok_appendT (s := p3) (s1 := (p4.1)) el49 · rfl rfl ⟨_,tu49⟩ (.tmp rfl) (.tmp rfl) hp5 hp6) ?_)))
 try dsimp only [w0,w1,w2,w3]
 obtain ⟨p7,hp7,h⟩ := bindo h
 obtain ⟨p8,hp8,h⟩ := bindo h
 refine qS 15 rfl (oN · rfl hp7) (qS 16 rfl (oF · fi160_1 (by decide) rfl rfl) (qN rfl (ok_store_s (v := (Sl.hv (p6.1))) · sz49 (.tmp rfl) rfl (.tmp rfl) rfl hp8) (rE ?_)))
 try dsimp only [w0,w1,w2,w3]
 refine qQ rfl (qR rfl rfl (qS 4 rfl (ok_assign · (.const fun _ => .nilIf)) (rE ?_)))
 try dsimp only [w0,w1,w2,w3]
 cases h
 exact q_ret rfl at_.at_ rfl (res1 rfl rfl) ⟨rfl,rfl⟩
end
end strings_Builder_WriteByte
namespace strings_Builder_String
theorem at_ : FnAt Tryz.prog 81 Tryz.f81 := ⟨Tryz.func81,by kernel_rfl⟩
noncomputable def d0 := (Tryz.f81.body).getD .skip
noncomputable def r1 := kR (kA d0)
noncomputable def r3 := kR (kA (kB d0))
noncomputable def c0 : Code := .seq (.region 0 r1 false) (.seq (.region 1 r3 true) .ret)
theorem body : Tryz.f81.body = some c0 := by kernel_rfl
section
variable {base : Nat} {W0 : Env} {β0 : Bt}
def f (x0 : (Option HA)) (S : HS) : Option (((List UInt8)) × HS) :=
 (Option.bind (x0) fun p1 =>
 (Option.bind (HS.ldSl S (HA.fld p1 1)) fun p2 =>
 (Option.bind (Sl.data p2) fun p3 =>
 (Option.bind (x0) fun p4 =>
 (Option.bind (HS.ldSl S (HA.fld p4 1)) fun p5 =>
 (Option.bind (HS.ustr S p3 (Sl.len p5 : Int) 5) fun p6 =>
 some ((p6.1),(p6.2))))))))
theorem snd {x0 : (Option HA)} {S : HS}  {p : ((List UInt8)) × HS} (h : f x0 S = some p) : HCall Tryz.prog base W0 β0 81 [(.ptr x0)] S (fun v S1 => v = (.str p.1) ∧ S1 = p.2) := by
 unfold f at h
 refine HCall.of_run at_.at_ body ?_
 show HRun Tryz.prog base W0 β0 81 none [.code c0] ⟨[(.ptr x0),τ,τ,τ,τ,τ,τ,τ,τ,τ,τ,τ,τ,τ],[]⟩ S _
 refine qQ rfl (qR rfl rfl (qS 2 rfl (ok_assign · (.str _)) (rE ?_)))
 try dsimp only [w0,w1,w2,w3]
 refine qQ rfl ?_
 refine x_start (cls := [0,0,0,1,0,0,0,0,1,0,2,0]) (rk := [0,1,2,3,4,5,6,7,8,9,10,11]) rfl (by kernel_rfl) ?_
 refine yf 3 [0] rfl (oM · rfl) ?_
 obtain ⟨p1,hp1,h⟩ := bindo h
 refine yf 4 [3] rfl (oN · rfl hp1) ?_
 refine yf 5 [4] rfl (oF · fi160_1 (by decide) rfl rfl) ?_
 obtain ⟨p2,hp2,h⟩ := bindo h
 refine yr 6 [5] rfl (oL · sc49 rfl rfl (ldSl_out hp2)) ?_
 try dsimp only [w0,w1,w2,w3]
 obtain ⟨p3,hp3,h⟩ := bindo h
 refine yf 7 [6] rfl (ok_sliceData (s := p2) · (.tmp rfl) hp3) ?_
 refine yf 8 [0] rfl (oM · rfl) ?_
 obtain ⟨p4,hp4,h⟩ := bindo h
 refine yf 9 [8] rfl (oN · rfl hp4) ?_
 refine yf 10 [9] rfl (oF · fi160_1 (by decide) rfl rfl) ?_
 try dsimp only [w0,w1,w2,w3]
 obtain ⟨p5,hp5,h⟩ := bindo h
 refine yr 11 [10] rfl (oL · sc49 rfl rfl (ldSl_out hp5)) ?_
 refine yf 12 [11] rfl (ok_len_sl (q := Sl.a p5) (n := Sl.len p5) (z := Sl.cap p5) · rfl tu49 (.tmp rfl)) ?_
 obtain ⟨p6,hp6,h⟩ := bindo h
 refine ye 13 [7,12] rfl (ok_unsafeString · tu231 ch5 (.tmp rfl) (.tmp rfl) hp6) ?_
 refine yf 2 [13] rfl (oA · rfl) ?_
 refine x_rest rfl ?_
 refine rE ?_
 try dsimp only [w0,w1,w2,w3]
 cases h
 exact q_ret rfl at_.at_ rfl (res1 rfl rfl) ⟨rfl,rfl⟩
end
end strings_Builder_String
namespace valid_Clean
theorem at_ : FnAt Tryz.prog 42 Tryz.f42 := ⟨Tryz.func42,by kernel_rfl⟩
noncomputable def d0 := (Tryz.f42.body).getD .skip
noncomputable def r1 := kR (kA d0)
noncomputable def r3 := kR (kA (kB d0))
noncomputable def r5 := kR (kA (kB (kB d0)))
noncomputable def d6 := kB (kB (kB d0))
noncomputable def r8 := kR (kA (kA d6))
noncomputable def d10 := kA (kB (kA d6))
noncomputable def r13 := kR (kA (kA (kA d10)))
noncomputable def r20 := kR (kA (kA (kA (kB (kA d10)))))
noncomputable def r22 := kR (kA (kB (kA (kA (kB (kA d10))))))
noncomputable def r24 := kR (kB (kB (kA d10)))
noncomputable def r26 := kR (kA (kB d6))
noncomputable def c25 : Code := .seq (.region 8 r26 false) .ret
noncomputable def c24 : Code := .region 5 r24 false
noncomputable def c17 : Code := .seq (.block 1 (.seq (.region 6 r20 false) (.cond (.tmp 26) (.region 7 r22 false) .skip))) c24
noncomputable def c14 : Code := .cond (.tmp 17) .skip (.exit 0)
noncomputable def c11 : Code := .seq (.seq (.region 4 r13 false) c14) c17
noncomputable def c0 : Code := .seq (.region 0 r1 false) (.seq (.region 1 r3 false) (.seq (.region 2 r5 false) (.seq (.seq (.region 3 r8 false) (.block 0 (.loop c11))) c25)))
theorem body : Tryz.f42.body = some c0 := by kernel_rfl
section
variable {base : Nat} {W0 : Env} {β0 : Bt}
def J2 (k : Nat) (rec0 : (List UInt8) → Int → (Option HA) → (Option HA) → Int → HS → Option (((List UInt8)) × HS)) (y0 : (List UInt8)) (y1 : Int) (y5 : (Option HA)) (y6 : (Option HA)) (y7 : Int) (S : HS) : Option (((List UInt8)) × HS) :=
 rec0 y0 y1 y5 y6 (w64 (y7 + 1)) S
theorem J2_snd {k : Nat} {rec0 : (List UInt8) → Int → (Option HA) → (Option HA) → Int → HS → Option (((List UInt8)) × HS)} (hrec0 : ∀ ⦃y0 : (List UInt8)⦄ ⦃y1 : Int⦄ ⦃y5 : (Option HA)⦄ ⦃y6 : (Option HA)⦄ ⦃y7 : Int⦄ ⦃S : HS⦄ ⦃p : ((List UInt8)) × HS⦄ ⦃Gc Gd Ge Gi Gj Gk Gl Gm Gn Go Gp Gq Gr Gs Gt Gu Gv Gw Gx Gy Gz Ka Kb Kc Kd Ke Kf : HV⦄,rec0 y0 y1 y5 y6 y7 S = some p → HRun Tryz.prog base W0 β0 42 none [.inLoop c11,.inBlock 0,.code c25] ⟨[(.str y0),(.int .i64 y1),Gc,Gd,Ge,(.ptr y5),(.ptr y6),(.int .i64 y7),Gi,Gj,Gk,Gl,Gm,Gn,Go,Gp,Gq,Gr,Gs,Gt,Gu,Gv,Gw,Gx,Gy,Gz,Ka,Kb,Kc,Kd,Ke,Kf],[]⟩ S (fun v S1 => v = (.str p.1) ∧ S1 = p.2)) {y0 : (List UInt8)} {y1 : Int} {y5 : (Option HA)} {y6 : (Option HA)} {y7 : Int} {S : HS} {p : ((List UInt8)) × HS} {Gc Gd Ge Gi Gj Gk Gl Gm Gn Go Gp Gq Gr Gs Gt Gu Gv Gw Gx Gy Gz Ka Kb Kc Kd Ke Kf : HV} (h : J2 k rec0 y0 y1 y5 y6 y7 S = some p) : HRun Tryz.prog base W0 β0 42 none [.code c24,.inLoop c11,.inBlock 0,.code c25] ⟨[(.str y0),(.int .i64 y1),Gc,Gd,Ge,(.ptr y5),(.ptr y6),(.int .i64 y7),Gi,Gj,Gk,Gl,Gm,Gn,Go,Gp,Gq,Gr,Gs,Gt,Gu,Gv,Gw,Gx,Gy,Gz,Ka,Kb,Kc,Kd,Ke,Kf],[]⟩ S (fun v S1 => v = (.str p.1) ∧ S1 = p.2) := by
 unfold J2 at h
 refine qR rfl rfl (qS 18 rfl (oM · rfl) (qS 19 rfl (oC · rfl rfl) (qS 7 rfl (oA · rfl) (rE ?_))))
 try dsimp only [w0,w1,w2,w3]
 try dsimp only [w0,w1,w2,w3]
 exact hrec0 h
def J1 (k : Nat) (rec0 : (List UInt8) → Int → (Option HA) → (Option HA) → Int → HS → Option (((List UInt8)) × HS)) (y0 : (List UInt8)) (y1 : Int) (y5 : (Option HA)) (y6 : (Option HA)) (y7 : Int) (y17 : Bool) (S : HS) : Option (((List UInt8)) × HS) :=
 (if y17 = true then
 (Option.bind (sat y0 y7) fun p9 =>
 (Option.bind (y5) fun p10 =>
 (if 0 ≤ ((UInt8.toNat p9 : Int) : Int) ∧ ((UInt8.toNat p9 : Int) : Int) < 256 then
 (Option.bind (HS.ldI S .u16 (HA.fld p10 (Int.toNat (UInt8.toNat p9 : Int)))) fun p12 =>
 (if (!decide ((iand .u16 p12 64) = 0)) = true then
 (Option.bind (sat y0 y7) fun p14 =>
 (Option.bind (strings_Builder_WriteByte.f y6 (UInt8.toNat p14 : Int) S) fun p15 =>
 J2 k rec0 y0 y1 y5 y6 y7 p15.2)) else
 J2 k rec0 y0 y1 y5 y6 y7 S)) else none))) else
 (Option.bind (strings_Builder_String.f y6 S) fun p16 =>
 some (p16.1,p16.2)))
theorem J1_snd {k : Nat} {rec0 : (List UInt8) → Int → (Option HA) → (Option HA) → Int → HS → Option (((List UInt8)) × HS)} (hrec0 : ∀ ⦃y0 : (List UInt8)⦄ ⦃y1 : Int⦄ ⦃y5 : (Option HA)⦄ ⦃y6 : (Option HA)⦄ ⦃y7 : Int⦄ ⦃S : HS⦄ ⦃p : ((List UInt8)) × HS⦄ ⦃Gc Gd Ge Gi Gj Gk Gl Gm Gn Go Gp Gq Gr Gs Gt Gu Gv Gw Gx Gy Gz Ka Kb Kc Kd Ke Kf : HV⦄,rec0 y0 y1 y5 y6 y7 S = some p → HRun Tryz.prog base W0 β0 42 none [.inLoop c11,.inBlock 0,.code c25] ⟨[(.str y0),(.int .i64 y1),Gc,Gd,Ge,(.ptr y5),(.ptr y6),(.int .i64 y7),Gi,Gj,Gk,Gl,Gm,Gn,Go,Gp,Gq,Gr,Gs,Gt,Gu,Gv,Gw,Gx,Gy,Gz,Ka,Kb,Kc,Kd,Ke,Kf],[]⟩ S (fun v S1 => v = (.str p.1) ∧ S1 = p.2)) {y0 : (List UInt8)} {y1 : Int} {y5 : (Option HA)} {y6 : (Option HA)} {y7 : Int} {y17 : Bool} {S : HS} {p : ((List UInt8)) × HS} {Gc Gd Ge Gi Gj Gk Gl Gm Gn Go Gp Gq Gs Gt Gu Gv Gw Gx Gy Gz Ka Kb Kc Kd Ke Kf : HV} (h : J1 k rec0 y0 y1 y5 y6 y7 y17 S = some p) : HRun Tryz.prog base W0 β0 42 none [.code c14,.code c17,.inLoop c11,.inBlock 0,.code c25] ⟨[(.str y0),(.int .i64 y1),Gc,Gd,Ge,(.ptr y5),(.ptr y6),(.int .i64 y7),Gi,Gj,Gk,Gl,Gm,Gn,Go,Gp,Gq,(.bool y17),Gs,Gt,Gu,Gv,Gw,Gx,Gy,Gz,Ka,Kb,Kc,Kd,Ke,Kf],[]⟩ S (fun v S1 => v = (.str p.1) ∧ S1 = p.2) := by
 unfold J1 at h
 rcases ifc h with ⟨hc8,h⟩ | ⟨hc8,h⟩
 ·obtain ⟨p9,hp9,h⟩ := bindo h
  obtain ⟨p10,hp10,h⟩ := bindo h
  obtain ⟨hg11,h⟩ := gd h
  refine q_cond_t rfl (.tmp rfl) hc8 (q_skipc rfl (qQ rfl (q_block rfl (qQ rfl (qR rfl rfl (qS 20 rfl (oM · rfl) (qS 21 rfl (oM · rfl) (qS 22 rfl (ok_index_s · tu9 (.tmp rfl) (.tmp rfl) hp9) (qS 23 rfl (ok_indexAddr_arr · ta156 sz155 (.tmp rfl) hp10 (.tmp rfl) hg11) ?_)))))))))
  try dsimp only [w0,w1,w2,w3]
  obtain ⟨p12,hp12,h⟩ := bindo h
  refine qS 24 rfl (oL · sc155 rfl rfl (ldI_out hp12)) (qS 25 rfl (oC · rfl rfl) (qS 26 rfl (oC · rfl rfl) (rE ?_)))
  try dsimp only [w0,w1,w2,w3]
  rcases ifc h with ⟨hc13,h⟩ | ⟨hc13,h⟩
  ·obtain ⟨p14,hp14,h⟩ := bindo h
   obtain ⟨p15,hp15,h⟩ := bindo h
   refine q_cond_t rfl (.tmp rfl) hc13 (qR rfl rfl (qS 27 rfl (oM · rfl) (qS 28 rfl (oM · rfl) (qS 29 rfl (ok_index_s · tu9 (.tmp rfl) (.tmp rfl) hp14) (q_call (dst := some 30) rfl (.func _) (.cons (.tmp rfl) (.cons (.tmp rfl) Evs.nil)) (HInv.static strings_Builder_WriteByte.at_ strings_Builder_WriteByte.body (strings_Builder_WriteByte.snd  hp15)) ?_)))))
   rintro _ _ ⟨rfl,rfl⟩
   refine rE ?_
   try dsimp only [w0,w1,w2,w3]
   refine hr_inBlock ?_
   try dsimp only [w0,w1,w2,w3]
   exact J2_snd hrec0 h
  ·refine q_cond_f rfl (.tmp rfl) (bfalse hc13) (q_skipc rfl (hr_inBlock ?_))
   try dsimp only [w0,w1,w2,w3]
   exact J2_snd hrec0 h
 ·obtain ⟨p16,hp16,h⟩ := bindo h
  refine q_cond_f rfl (.tmp rfl) (bfalse hc8) (q_exit rfl rfl (qQ rfl (qR rfl rfl (q_call (dst := some 31) rfl (.func _) (.cons (.tmp rfl) Evs.nil) (HInv.static strings_Builder_String.at_ strings_Builder_String.body (strings_Builder_String.snd  hp16)) ?_))))
  rintro _ _ ⟨rfl,rfl⟩
  refine qS 4 rfl (oA · rfl) (rE ?_)
  try dsimp only [w0,w1,w2,w3]
  cases h
  exact q_ret rfl at_.at_ rfl (res1 rfl rfl) ⟨rfl,rfl⟩
def L0 (k : Nat) : Nat → (List UInt8) → Int → (Option HA) → (Option HA) → Int → HS → Option (((List UInt8)) × HS)
 | 0,_,_,_,_,_,_ => none
 | n + 1,y0,y1,y5,y6,y7,S =>
  (if y7 < (List.length y0 : Int) then
  (Option.bind (strings_Builder_Len.f y6 S) fun p7 =>
  J1 k (L0 k n) y0 y1 y5 y6 y7 (decide (p7.1 < y1)) p7.2) else
  J1 k (L0 k n) y0 y1 y5 y6 y7 false S)
theorem L0_snd {k : Nat}  : ∀ {n : Nat} ⦃y0 : (List UInt8)⦄ ⦃y1 : Int⦄ ⦃y5 : (Option HA)⦄ ⦃y6 : (Option HA)⦄ ⦃y7 : Int⦄ ⦃S : HS⦄ ⦃p : ((List UInt8)) × HS⦄ ⦃Gc Gd Ge Gi Gj Gk Gl Gm Gn Go Gp Gq Gr Gs Gt Gu Gv Gw Gx Gy Gz Ka Kb Kc Kd Ke Kf : HV⦄,L0 k n y0 y1 y5 y6 y7 S = some p → HRun Tryz.prog base W0 β0 42 none [.inLoop c11,.inBlock 0,.code c25] ⟨[(.str y0),(.int .i64 y1),Gc,Gd,Ge,(.ptr y5),(.ptr y6),(.int .i64 y7),Gi,Gj,Gk,Gl,Gm,Gn,Go,Gp,Gq,Gr,Gs,Gt,Gu,Gv,Gw,Gx,Gy,Gz,Ka,Kb,Kc,Kd,Ke,Kf],[]⟩ S (fun v S1 => v = (.str p.1) ∧ S1 = p.2) := by
 intro n
 induction n with
 | zero => intro _ _ _ _ _ _ _ _ _ _ _ _ _ _ _ _ _ _ _ _ _ _ _ _ _ _ _ _ _ _ _ _ _ _ h; cases h
 | succ n ih =>
  intro y0 y1 y5 y6 y7 S p Gc Gd Ge Gi Gj Gk Gl Gm Gn Go Gp Gq Gr Gs Gt Gu Gv Gw Gx Gy Gz Ka Kb Kc Kd Ke Kf h
  simp only [L0] at h
  refine hr_inLoop (qQ rfl (qQ rfl (qR rfl rfl (qS 9 rfl (oM · rfl) (qS 10 rfl (oM · rfl) (qS 11 rfl (ok_len_str · rfl tu9 (.tmp rfl)) (qS 12 rfl (oB · rfl rfl rfl) ?_)))))))
  try dsimp only [w0,w1,w2,w3]
  refine qS 13 rfl (oM · rfl) ?_
  rcases ifc h with ⟨hc6,h⟩ | ⟨hc6,h⟩
  ·obtain ⟨p7,hp7,h⟩ := bindo h
   refine q_call_g (t := 13) (dst := some 14) rfl rfl rfl (decide_eq_true hc6) (.func _) (.cons (.tmp rfl) Evs.nil) (HInv.static strings_Builder_Len.at_ strings_Builder_Len.body (strings_Builder_Len.snd  hp7)) ?_
   rintro _ _ ⟨rfl,rfl⟩
   refine qG 13 15 rfl (decide_eq_true hc6) (oM · rfl) (qG 13 16 rfl (decide_eq_true hc6) (oB · rfl rfl rfl) ?_)
   try dsimp only [w0,w1,w2,w3]
   refine qS 17 rfl (ok_pick_tt · (.tmp rfl) (decide_eq_true hc6) (.tmp rfl)) (rE ?_)
   try dsimp only [w0,w1,w2,w3]
   try dsimp only [w0,w1,w2,w3]
   exact J1_snd ih h
  ·refine q_skip (dst := some 14) (t := 13) rfl rfl rfl (decide_eq_false hc6) (q_skip (dst := some 15) (t := 13) rfl rfl rfl (decide_eq_false hc6) (q_skip (dst := some 16) (t := 13) rfl rfl rfl (decide_eq_false hc6) ?_))
   try dsimp only [w0,w1,w2,w3]
   refine qS 17 rfl (ok_pick_ff · (.tmp rfl) (decide_eq_false hc6) (.bool _)) (rE ?_)
   try dsimp only [w0,w1,w2,w3]
   try dsimp only [w0,w1,w2,w3]
   exact J1_snd ih h
def f (k : Nat) (x0 : (List UInt8)) (x1 : Int) (S : HS) : Option (((List UInt8)) × HS) :=
 (Option.bind (valid_kinds.f k S) fun p1 =>
 (letv (HS.new p1.2 (.cells 256 [List.replicate 256 (.int .u16 0)] true)) fun p2 =>
 (if List.length p1.1 = 256 ∧ List.all p1.1 HV.flat = true then
 (Option.bind (HS.sets p2 (HA.cell0 p1.2.next) p1.1) fun p4 =>
 (letv (HS.newM p4 (.cells 2 [[(.ptr none),(Sl.hv Sl.nil)]] true) 162) fun p5 =>
 L0 k k x0 x1 (some (HA.cell0 p1.2.next)) (some (HA.cell0 p4.next)) 0 p5)) else none)))
theorem snd {k : Nat} {x0 : (List UInt8)} {x1 : Int} {S : HS}  {p : ((List UInt8)) × HS} (h : f k x0 x1 S = some p) : HCall Tryz.prog base W0 β0 42 [(.str x0),(.int .i64 x1)] S (fun v S1 => v = (.str p.1) ∧ S1 = p.2) := by
 unfold f at h
 refine HCall.of_run at_.at_ body ?_
 show HRun Tryz.prog base W0 β0 42 none [.code c0] ⟨[(.str x0),(.int .i64 x1),τ,τ,τ,τ,τ,τ,τ,τ,τ,τ,τ,τ,τ,τ,τ,τ,τ,τ,τ,τ,τ,τ,τ,τ,τ,τ,τ,τ,τ,τ],[]⟩ S _
 refine qQ rfl (qR rfl rfl (qS 4 rfl (ok_assign · (.str _)) (rE ?_)))
 try dsimp only [w0,w1,w2,w3]
 obtain ⟨p1,hp1,h⟩ := bindo h
 refine qQ rfl (qR rfl rfl (q_call (dst := some 8) rfl (.func _) Evs.nil (HInv.static valid_kinds.at_ valid_kinds.body (valid_kinds.snd  hp1)) ?_))
 rintro _ _ ⟨rfl,rfl⟩
 obtain ⟨p2,hp2,h⟩ := leto h
 obtain ⟨hg3,h⟩ := gd h
 obtain ⟨p4,hp4,h⟩ := bindo h
 refine qS 5 rfl (ok_alloc_arr · za156 (fun β => .int _ _) (by decide) rfl hp2) (qN rfl (ok_store_arr · sz156 (.tmp rfl) rfl (.tmp rfl) hg3 hp4) (rE ?_))
 try dsimp only [w0,w1,w2,w3]
 obtain ⟨p5,hp5,h⟩ := leto h
 refine qQ rfl (qR rfl rfl (qS 6 rfl (ok_allocT · zi160 zr160 (by decide) rfl hp5) (rE ?_)))
 try dsimp only [w0,w1,w2,w3]
 refine qQ rfl (qQ rfl (qR rfl rfl (qS 7 rfl (ok_assign · (.int _ _)) (rE ?_))))
 try dsimp only [w0,w1,w2,w3]
 refine q_block rfl (q_loop rfl ?_)
 try dsimp only [w0,w1,w2,w3]
 exact L0_snd  h
end
end valid_Clean
namespace sendq_torn
theorem at_ : FnAt Tryz.prog 57 Tryz.f57 := ⟨Tryz.func57,by kernel_rfl⟩
noncomputable def d0 := (Tryz.f57.body).getD .skip
noncomputable def r1 := kR (kA d0)
noncomputable def r4 := kR (kA (kA (kB d0)))
noncomputable def r7 := kR (kA (kA (kB (kA (kB d0)))))
noncomputable def r11 := kR (kA (kB (kB d0)))
noncomputable def d12 := kB (kB (kB d0))
noncomputable def r14 := kR (kA (kA d12))
noncomputable def d16 := kA (kB (kA d12))
noncomputable def r19 := kR (kA (kA (kA d16)))
noncomputable def d24 := kA (kB (kA d16))
noncomputable def r27 := kR (kA (kA (kA d24)))
noncomputable def r30 := kR (kA (kA (kB (kA (kA d24)))))
noncomputable def r34 := kR (kA (kB (kA d24)))
noncomputable def r37 := kR (kA (kA (kB (kB (kA d24)))))
noncomputable def r42 := kR (kA (kB (kB (kB (kA d24)))))
noncomputable def r45 := kR (kA (kA (kB (kB (kB (kB (kA d24)))))))
noncomputable def r48 := kR (kB (kB (kA d16)))
noncomputable def r50 := kR (kA (kB d12))
noncomputable def c49 : Code := .seq (.region 13 r50 false) .ret
noncomputable def c48 : Code := .region 6 r48 false
noncomputable def c17 : Code := .seq (.seq (.region 5 r19 false) (.cond (.tmp 22) .skip (.exit 0))) (.seq (.block 1 (.seq (.seq (.region 7 r27 false) (.cond (.tmp 26) (.seq (.region 8 r30 false) .ret) .skip)) (.seq (.region 9 r34 false) (.seq (.seq (.region 10 r37 false) (.cond (.tmp 33) (.exit 1) .skip)) (.seq (.region 11 r42 false) (.cond (.tmp 35) (.seq (.region 12 r45 false) .ret) .skip)))))) c48)
noncomputable def c0 : Code := .seq (.region 0 r1 false) (.seq (.seq (.region 1 r4 false) (.cond (.tmp 11) (.seq (.region 2 r7 false) .ret) .skip)) (.seq (.region 3 r11 false) (.seq (.seq (.region 4 r14 false) (.block 0 (.loop c17))) c49)))
theorem body : Tryz.f57.body = some c0 := by kernel_rfl
section
variable {base : Nat} {W0 : Env} {β0 : Bt}
def J1 (k : Nat) (rec0 : Sl → Int → Int → HS → Option ((Int) × HS)) (y0 : Sl) (y7 : Int) (y8 : Int) (S : HS) : Option ((Int) × HS) :=
 rec0 y0 y7 (w64 (y8 + 1)) S
theorem J1_snd {k : Nat} {rec0 : Sl → Int → Int → HS → Option ((Int) × HS)} (hrec0 : ∀ ⦃y0 : Sl⦄ ⦃y7 : Int⦄ ⦃y8 : Int⦄ ⦃S : HS⦄ ⦃p : (Int) × HS⦄ ⦃Gb Gc Gd Ge Gf Gg Gj Gk Gl Gm Gn Go Gp Gq Gr Gs Gt Gu Gv Gw Gx Gy Gz Ka Kb Kc Kd Ke Kf Kg Kh Ki Kj Kk Kl Km Kn Ko Kp Kq : HV⦄,rec0 y0 y7 y8 S = some p → HRun Tryz.prog base W0 β0 57 none [.inLoop c17,.inBlock 0,.code c49] ⟨[(Sl.hv y0),Gb,Gc,Gd,Ge,Gf,Gg,(.int .i64 y7),(.int .i64 y8),Gj,Gk,Gl,Gm,Gn,Go,Gp,Gq,Gr,Gs,Gt,Gu,Gv,Gw,Gx,Gy,Gz,Ka,Kb,Kc,Kd,Ke,Kf,Kg,Kh,Ki,Kj,Kk,Kl,Km,Kn,Ko,Kp,Kq],[]⟩ S (fun v S1 => v = (.int .i64 p.1) ∧ S1 = p.2)) {y0 : Sl} {y7 : Int} {y8 : Int} {S : HS} {p : (Int) × HS} {Gb Gc Gd Ge Gf Gg Gj Gk Gl Gm Gn Go Gp Gq Gr Gs Gt Gu Gv Gw Gx Gy Gz Ka Kb Kc Kd Ke Kf Kg Kh Ki Kj Kk Kl Km Kn Ko Kp Kq : HV} (h : J1 k rec0 y0 y7 y8 S = some p) : HRun Tryz.prog base W0 β0 57 none [.code c48,.inLoop c17,.inBlock 0,.code c49] ⟨[(Sl.hv y0),Gb,Gc,Gd,Ge,Gf,Gg,(.int .i64 y7),(.int .i64 y8),Gj,Gk,Gl,Gm,Gn,Go,Gp,Gq,Gr,Gs,Gt,Gu,Gv,Gw,Gx,Gy,Gz,Ka,Kb,Kc,Kd,Ke,Kf,Kg,Kh,Ki,Kj,Kk,Kl,Km,Kn,Ko,Kp,Kq],[]⟩ S (fun v S1 => v = (.int .i64 p.1) ∧ S1 = p.2) := by
 unfold J1 at h
 refine qR rfl rfl (qS 23 rfl (oM · rfl) (qS 24 rfl (oC · rfl rfl) (qS 8 rfl (oA · rfl) (rE ?_))))
 try dsimp only [w0,w1,w2,w3]
 try dsimp only [w0,w1,w2,w3]
 exact hrec0 h
def L0 (k : Nat) : Nat → Sl → Int → Int → HS → Option ((Int) × HS)
 | 0,_,_,_,_ => none
 | n + 1,y0,y7,y8,S =>
  (if y8 < (Sl.len y0 : Int) then
  (if y7 = 0 then
  some (0,S) else
  (Option.bind (HS.idx S y0 y8 1) fun p4 =>
  (Option.bind (HS.ldI S .u8 p4) fun p5 =>
  (if p5 = 10 then
  J1 k (L0 k n) y0 (w64 (y7 - 1)) y8 S else
  (if (w64 (y7 - 1)) = 0 then
  (Option.bind (HS.cut S y0 (w64 (y8 + 1)) (Sl.len y0 : Int) 1) fun p8 =>
  (Option.bind (HS.text S p8) fun p9 =>
  (Option.bind (strings_IndexByte.f p9 10) fun p10 =>
  some ((w64 (p10 + 1)),S)))) else
  J1 k (L0 k n) y0 (w64 (y7 - 1)) y8 S))))) else
  some (0,S))
theorem L0_snd {k : Nat}  : ∀ {n : Nat} ⦃y0 : Sl⦄ ⦃y7 : Int⦄ ⦃y8 : Int⦄ ⦃S : HS⦄ ⦃p : (Int) × HS⦄ ⦃Gb Gc Gd Ge Gf Gg Gj Gk Gl Gm Gn Go Gp Gq Gr Gs Gt Gu Gv Gw Gx Gy Gz Ka Kb Kc Kd Ke Kf Kg Kh Ki Kj Kk Kl Km Kn Ko Kp Kq : HV⦄,L0 k n y0 y7 y8 S = some p → HRun Tryz.prog base W0 β0 57 none [.inLoop c17,.inBlock 0,.code c49] ⟨[(Sl.hv y0),Gb,Gc,Gd,Ge,Gf,Gg,(.int .i64 y7),(.int .i64 y8),Gj,Gk,Gl,Gm,Gn,Go,Gp,Gq,Gr,Gs,Gt,Gu,Gv,Gw,Gx,Gy,Gz,Ka,Kb,Kc,Kd,Ke,Kf,Kg,Kh,Ki,Kj,Kk,Kl,Km,Kn,Ko,Kp,Kq],[]⟩ S (fun v S1 => v = (.int .i64 p.1) ∧ S1 = p.2) := by
 intro n
 induction n with
 | zero => intro _ _ _ _ _ _ _ _ _ _ _ _ _ _ _ _ _ _ _ _ _ _ _ _ _ _ _ _ _ _ _ _ _ _ _ _ _ _ _ _ _ _ _ _ _ h; cases h
 | succ n ih =>
  intro y0 y7 y8 S p Gb Gc Gd Ge Gf Gg Gj Gk Gl Gm Gn Go Gp Gq Gr Gs Gt Gu Gv Gw Gx Gy Gz Ka Kb Kc Kd Ke Kf Kg Kh Ki Kj Kk Kl Km Kn Ko Kp Kq h
  simp only [L0] at h
  refine hr_inLoop (qQ rfl (qQ rfl (qR rfl rfl (qS 19 rfl (oM · rfl) (qS 20 rfl (oM · rfl) (qS 21 rfl (ok_len_sl (q := Sl.a y0) (n := Sl.len y0) (z := Sl.cap y0) · rfl tu49 (.tmp rfl)) (qS 22 rfl (oB · rfl rfl rfl) (rE ?_))))))))
  try dsimp only [w0,w1,w2,w3]
  rcases ifc h with ⟨hc2,h⟩ | ⟨hc2,h⟩
  ·refine q_cond_t rfl (.tmp rfl) (decide_eq_true hc2) (q_skipc rfl (qQ rfl (q_block rfl (qQ rfl (qQ rfl (qR rfl rfl (qS 25 rfl (oM · rfl) (qS 26 rfl (oC · rfl rfl) (rE ?_)))))))))
   try dsimp only [w0,w1,w2,w3]
   rcases ifc h with ⟨hc3,h⟩ | ⟨hc3,h⟩
   ·refine q_cond_t rfl (.tmp rfl) (decide_eq_true hc3) (qQ rfl (qR rfl rfl (qS 6 rfl (ok_assign · (.int _ _)) (rE ?_))))
    try dsimp only [w0,w1,w2,w3]
    cases h
    exact q_ret rfl at_.at_ rfl (res1 rfl rfl) ⟨rfl,rfl⟩
   ·refine q_cond_f rfl (.tmp rfl) (decide_eq_false hc3) (q_skipc rfl (qQ rfl (qR rfl rfl (qS 27 rfl (oM · rfl) (qS 28 rfl (oC · rfl rfl) (qS 7 rfl (oA · rfl) (rE ?_)))))))
    try dsimp only [w0,w1,w2,w3]
    obtain ⟨p4,hp4,h⟩ := bindo h
    obtain ⟨p5,hp5,h⟩ := bindo h
    refine qQ rfl (qQ rfl (qR rfl rfl (qS 29 rfl (oM · rfl) (qS 30 rfl (oM · rfl) (qS 31 rfl (oX (s := y0) · tu49 sz5 rfl rfl hp4) (qS 32 rfl (oL · sc5 rfl rfl (ldI_out hp5)) ?_))))))
    try dsimp only [w0,w1,w2,w3]
    refine qS 33 rfl (oC · rfl rfl) (rE ?_)
    try dsimp only [w0,w1,w2,w3]
    rcases ifc h with ⟨hc6,h⟩ | ⟨hc6,h⟩
    ·refine q_cond_t rfl (.tmp rfl) (decide_eq_true hc6) (q_exit rfl rfl ?_)
     try dsimp only [w0,w1,w2,w3]
     exact J1_snd ih h
    ·refine q_cond_f rfl (.tmp rfl) (decide_eq_false hc6) (q_skipc rfl (qQ rfl (qR rfl rfl (qS 34 rfl (oM · rfl) (qS 35 rfl (oC · rfl rfl) (rE ?_))))))
     try dsimp only [w0,w1,w2,w3]
     rcases ifc h with ⟨hc7,h⟩ | ⟨hc7,h⟩
     ·obtain ⟨p8,hp8,h⟩ := bindo h
      refine q_cond_t rfl (.tmp rfl) (decide_eq_true hc7) (qQ rfl (qR rfl rfl (qS 36 rfl (oM · rfl) (qS 37 rfl (oM · rfl) (qS 38 rfl (oC · rfl rfl) (qS 39 rfl (ok_slice (kl := .i64) (kh := .i64) (s := y0) (l := (w64 (y8 + 1))) (h := (Sl.len y0 : Int)) · tu49 si5 (.tmp rfl) (.inr ⟨_,rfl,(.tmp rfl)⟩) (.inl ⟨rfl,rfl⟩) hp8) ?_))))))
      try dsimp only [w0,w1,w2,w3]
      obtain ⟨p9,hp9,h⟩ := bindo h
      obtain ⟨p10,hp10,h⟩ := bindo h
      refine qS 40 rfl (ok_str_of_bytes (s := p8) · tu49 tu5 tu9 (.tmp rfl) hp9) (q_call (dst := some 41) rfl (.func _) (.cons (.tmp rfl) (.cons (.int _ _) Evs.nil)) (HInv.static strings_IndexByte.at_ strings_IndexByte.body (strings_IndexByte.snd  hp10)) ?_)
      rintro _ _ ⟨rfl,rfl⟩
      refine qS 42 rfl (oC · rfl rfl) (qS 6 rfl (oA · rfl) (rE ?_))
      try dsimp only [w0,w1,w2,w3]
      cases h
      exact q_ret rfl at_.at_ rfl (res1 rfl rfl) ⟨rfl,rfl⟩
     ·refine q_cond_f rfl (.tmp rfl) (decide_eq_false hc7) (q_skipc rfl (hr_inBlock ?_))
      try dsimp only [w0,w1,w2,w3]
      exact J1_snd ih h
  ·refine q_cond_f rfl (.tmp rfl) (decide_eq_false hc2) (q_exit rfl rfl (qQ rfl (qR rfl rfl (qS 6 rfl (ok_assign · (.int _ _)) (rE ?_)))))
   try dsimp only [w0,w1,w2,w3]
   cases h
   exact q_ret rfl at_.at_ rfl (res1 rfl rfl) ⟨rfl,rfl⟩
def f (k : Nat) (x0 : Sl) (x1 : Int) (x2 : Int) (S : HS) : Option ((Int) × HS) :=
 (if x2 ≤ x1 then
 some ((w64 (x1 - x2)),S) else
 L0 k k x0 (w64 (x2 - x1)) x1 S)
theorem snd {k : Nat} {x0 : Sl} {x1 : Int} {x2 : Int} {S : HS}  {p : (Int) × HS} (h : f k x0 x1 x2 S = some p) : HCall Tryz.prog base W0 β0 57 [(Sl.hv x0),(.int .i64 x1),(.int .i64 x2)] S (fun v S1 => v = (.int .i64 p.1) ∧ S1 = p.2) := by
 unfold f at h
 refine HCall.of_run at_.at_ body ?_
 show HRun Tryz.prog base W0 β0 57 none [.code c0] ⟨[(Sl.hv x0),(.int .i64 x1),(.int .i64 x2),τ,τ,τ,τ,τ,τ,τ,τ,τ,τ,τ,τ,τ,τ,τ,τ,τ,τ,τ,τ,τ,τ,τ,τ,τ,τ,τ,τ,τ,τ,τ,τ,τ,τ,τ,τ,τ,τ,τ,τ],[]⟩ S _
 refine qQ rfl (qR rfl rfl (qS 6 rfl (ok_assign · (.int _ _)) (rE ?_)))
 try dsimp only [w0,w1,w2,w3]
 refine qQ rfl (qQ rfl (qR rfl rfl (qS 9 rfl (oM · rfl) (qS 10 rfl (oM · rfl) (qS 11 rfl (oB · rfl rfl rfl) (rE ?_))))))
 try dsimp only [w0,w1,w2,w3]
 rcases ifc h with ⟨hc1,h⟩ | ⟨hc1,h⟩
 ·refine q_cond_t rfl (.tmp rfl) (decide_eq_true hc1) (qQ rfl (qR rfl rfl (qS 12 rfl (oM · rfl) (qS 13 rfl (oM · rfl) (qS 14 rfl (oB · rfl rfl rfl) (qS 6 rfl (oA · rfl) (rE ?_)))))))
  try dsimp only [w0,w1,w2,w3]
  cases h
  exact q_ret rfl at_.at_ rfl (res1 rfl rfl) ⟨rfl,rfl⟩
 ·refine q_cond_f rfl (.tmp rfl) (decide_eq_false hc1) (q_skipc rfl (qQ rfl (qR rfl rfl (qS 15 rfl (oM · rfl) (qS 16 rfl (oM · rfl) (qS 17 rfl (oB · rfl rfl rfl) (qS 7 rfl (oA · rfl) (rE ?_))))))))
  try dsimp only [w0,w1,w2,w3]
  refine qQ rfl (qQ rfl (qR rfl rfl (qS 18 rfl (oM · rfl) (qS 8 rfl (oA · rfl) (rE ?_)))))
  try dsimp only [w0,w1,w2,w3]
  refine q_block rfl (q_loop rfl ?_)
  try dsimp only [w0,w1,w2,w3]
  exact L0_snd  h
end
end sendq_torn
namespace valid_all
theorem at_ : FnAt Tryz.prog 86 Tryz.f86 := ⟨Tryz.func86,by kernel_rfl⟩
noncomputable def d0 := (Tryz.f86.body).getD .skip
noncomputable def r1 := kR (kA d0)
noncomputable def r4 := kR (kA (kA (kB d0)))
noncomputable def r7 := kR (kA (kA (kB (kA (kB d0)))))
noncomputable def r11 := kR (kA (kB (kB d0)))
noncomputable def d12 := kB (kB (kB d0))
noncomputable def r14 := kR (kA (kA d12))
noncomputable def d16 := kA (kB (kA d12))
noncomputable def r18 := kR (kA (kA d16))
noncomputable def d23 := kB (kB (kA d16))
noncomputable def r26 := kR (kA (kA (kA d23)))
noncomputable def r28 := kR (kA (kB (kA (kA d23))))
noncomputable def r31 := kR (kA (kA (kB (kB (kA (kA d23))))))
noncomputable def r34 := kR (kB d23)
noncomputable def r36 := kR (kA (kB d12))
noncomputable def c35 : Code := .seq (.region 10 r36 false) .ret
noncomputable def c17 : Code := .seq (.region 5 r18 false) (.seq (.cond (.tmp 25) .skip (.exit 0)) (.seq (.block 1 (.seq (.region 6 r26 false) (.seq (.region 7 r28 false) (.cond (.tmp 34) (.seq (.region 8 r31 false) .ret) .skip)))) (.region 9 r34 false)))
noncomputable def c10 : Code := .seq (.region 3 r11 false) (.seq (.seq (.region 4 r14 false) (.block 0 (.loop c17))) c35)
noncomputable def c5 : Code := .cond (.tmp 20) (.seq (.region 2 r7 false) .ret) .skip
noncomputable def c0 : Code := .seq (.region 0 r1 false) (.seq (.seq (.region 1 r4 false) c5) c10)
theorem body : Tryz.f86.body = some c0 := by kernel_rfl
section
variable {base : Nat} {W0 : Env} {β0 : Bt}
def L1 (k : Nat) : Nat → (List UInt8) → Int → (Option HA) → Int → Int → HS → Option ((Bool) × HS)
 | 0,_,_,_,_,_,_ => none
 | n + 1,y0,y3,y9,y23,y24,S =>
  (if y24 < y23 then
  (Option.bind (sat y0 y24) fun p8 =>
  (Option.bind (y9) fun p9 =>
  (if 0 ≤ ((UInt8.toNat p8 : Int) : Int) ∧ ((UInt8.toNat p8 : Int) : Int) < 256 then
  (Option.bind (HS.ldI S .u16 (HA.fld p9 (Int.toNat (UInt8.toNat p8 : Int)))) fun p11 =>
  (if (iand .u16 p11 y3) = 0 then
  some (false,S) else
  (L1 k n) y0 y3 y9 y23 (w64 (y24 + 1)) S)) else none))) else
  some (true,S))
theorem L1_snd {k : Nat}  : ∀ {n : Nat} ⦃y0 : (List UInt8)⦄ ⦃y3 : Int⦄ ⦃y9 : (Option HA)⦄ ⦃y23 : Int⦄ ⦃y24 : Int⦄ ⦃S : HS⦄ ⦃p : (Bool) × HS⦄ ⦃Gb Gc Ge Gf Gg Gh Gi Gk Gl Gm Gn Go Gp Gq Gr Gs Gt Gu Gv Gw Gz Ka Kb Kc Kd Ke Kf Kg Kh Ki Kj : HV⦄,L1 k n y0 y3 y9 y23 y24 S = some p → HRun Tryz.prog base W0 β0 86 none [.inLoop c17,.inBlock 0,.code c35] ⟨[(.str y0),Gb,Gc,(.int .u16 y3),Ge,Gf,Gg,Gh,Gi,(.ptr y9),Gk,Gl,Gm,Gn,Go,Gp,Gq,Gr,Gs,Gt,Gu,Gv,Gw,(.int .i64 y23),(.int .i64 y24),Gz,Ka,Kb,Kc,Kd,Ke,Kf,Kg,Kh,Ki,Kj],[]⟩ S (fun v S1 => v = (.bool p.1) ∧ S1 = p.2) := by
 intro n
 induction n with
 | zero => intro _ _ _ _ _ _ _ _ _ _ _ _ _ _ _ _ _ _ _ _ _ _ _ _ _ _ _ _ _ _ _ _ _ _ _ _ _ _ h; cases h
 | succ n ih =>
  intro y0 y3 y9 y23 y24 S p Gb Gc Ge Gf Gg Gh Gi Gk Gl Gm Gn Go Gp Gq Gr Gs Gt Gu Gv Gw Gz Ka Kb Kc Kd Ke Kf Kg Kh Ki Kj h
  simp only [L1] at h
  refine hr_inLoop (qQ rfl (qR rfl rfl (qS 25 rfl (oB · rfl rfl rfl) (rE ?_))))
  try dsimp only [w0,w1,w2,w3]
  refine qQ rfl ?_
  rcases ifc h with ⟨hc7,h⟩ | ⟨hc7,h⟩
  ·refine q_cond_t rfl (.tmp rfl) (decide_eq_true hc7) (q_skipc rfl (qQ rfl (q_block rfl (qQ rfl (qR rfl rfl (qS 26 rfl (oM · rfl) (qS 10 rfl (oA · rfl) (rE ?_))))))))
   try dsimp only [w0,w1,w2,w3]
   obtain ⟨p8,hp8,h⟩ := bindo h
   obtain ⟨p9,hp9,h⟩ := bindo h
   obtain ⟨hg10,h⟩ := gd h
   refine qQ rfl (qR rfl rfl (qS 27 rfl (oM · rfl) (qS 28 rfl (oM · rfl) (qS 29 rfl (ok_index_s · tu9 (.tmp rfl) (.tmp rfl) hp8) (qS 30 rfl (ok_indexAddr_arr · ta156 sz155 (.tmp rfl) hp9 (.tmp rfl) hg10) ?_)))))
   try dsimp only [w0,w1,w2,w3]
   obtain ⟨p11,hp11,h⟩ := bindo h
   refine qS 31 rfl (oL · sc155 rfl rfl (ldI_out hp11)) (qS 32 rfl (oM · rfl) (qS 33 rfl (oB · rfl rfl rfl) (qS 34 rfl (oC · rfl rfl) (rE ?_))))
   try dsimp only [w0,w1,w2,w3]
   rcases ifc h with ⟨hc12,h⟩ | ⟨hc12,h⟩
   ·refine q_cond_t rfl (.tmp rfl) (decide_eq_true hc12) (qQ rfl (qR rfl rfl (qS 8 rfl (ok_assign · (.bool _)) (rE ?_))))
    try dsimp only [w0,w1,w2,w3]
    cases h
    exact q_ret rfl at_.at_ rfl (res1 rfl rfl) ⟨rfl,rfl⟩
   ·refine q_cond_f rfl (.tmp rfl) (decide_eq_false hc12) (q_skipc rfl (hr_inBlock (qR rfl rfl (qS 35 rfl (oC · rfl rfl) (qS 24 rfl (oM · rfl) (rE ?_))))))
    try dsimp only [w0,w1,w2,w3]
    try dsimp only [w0,w1,w2,w3]
    exact ih h
  ·refine q_cond_f rfl (.tmp rfl) (decide_eq_false hc7) (q_exit rfl rfl (qQ rfl (qR rfl rfl (qS 8 rfl (ok_assign · (.bool _)) (rE ?_)))))
   try dsimp only [w0,w1,w2,w3]
   cases h
   exact q_ret rfl at_.at_ rfl (res1 rfl rfl) ⟨rfl,rfl⟩
def J0 (k : Nat) (y0 : (List UInt8)) (y3 : Int) (y20 : Bool) (S : HS) : Option ((Bool) × HS) :=
 (if y20 = true then
 some (false,S) else
 (Option.bind (valid_kinds.f k S) fun p3 =>
 (letv (HS.new p3.2 (.cells 256 [List.replicate 256 (.int .u16 0)] true)) fun p4 =>
 (if List.length p3.1 = 256 ∧ List.all p3.1 HV.flat = true then
 (Option.bind (HS.sets p4 (HA.cell0 p3.2.next) p3.1) fun p6 =>
 L1 k k y0 y3 (some (HA.cell0 p3.2.next)) (List.length y0 : Int) 0 p6) else none))))
theorem J0_snd {k : Nat}  {y0 : (List UInt8)} {y3 : Int} {y20 : Bool} {S : HS} {p : (Bool) × HS} {Gb Gc Ge Gf Gg Gh Gi Gj Gk Gl Gm Gn Go Gp Gq Gr Gs Gt Gv Gw Gx Gy Gz Ka Kb Kc Kd Ke Kf Kg Kh Ki Kj : HV} (h : J0 k y0 y3 y20 S = some p) : HRun Tryz.prog base W0 β0 86 none [.code c5,.code c10] ⟨[(.str y0),Gb,Gc,(.int .u16 y3),Ge,Gf,Gg,Gh,Gi,Gj,Gk,Gl,Gm,Gn,Go,Gp,Gq,Gr,Gs,Gt,(.bool y20),Gv,Gw,Gx,Gy,Gz,Ka,Kb,Kc,Kd,Ke,Kf,Kg,Kh,Ki,Kj],[]⟩ S (fun v S1 => v = (.bool p.1) ∧ S1 = p.2) := by
 unfold J0 at h
 rcases ifc h with ⟨hc2,h⟩ | ⟨hc2,h⟩
 ·refine q_cond_t rfl (.tmp rfl) hc2 (qQ rfl (qR rfl rfl (qS 8 rfl (ok_assign · (.bool _)) (rE ?_))))
  try dsimp only [w0,w1,w2,w3]
  cases h
  exact q_ret rfl at_.at_ rfl (res1 rfl rfl) ⟨rfl,rfl⟩
 ·obtain ⟨p3,hp3,h⟩ := bindo h
  refine q_cond_f rfl (.tmp rfl) (bfalse hc2) (q_skipc rfl (qQ rfl (qR rfl rfl (q_call (dst := some 21) rfl (.func _) Evs.nil (HInv.static valid_kinds.at_ valid_kinds.body (valid_kinds.snd  hp3)) ?_))))
  rintro _ _ ⟨rfl,rfl⟩
  obtain ⟨p4,hp4,h⟩ := leto h
  obtain ⟨hg5,h⟩ := gd h
  obtain ⟨p6,hp6,h⟩ := bindo h
  refine qS 9 rfl (ok_alloc_arr · za156 (fun β => .int _ _) (by decide) rfl hp4) (qN rfl (ok_store_arr · sz156 (.tmp rfl) rfl (.tmp rfl) hg5 hp6) (rE ?_))
  try dsimp only [w0,w1,w2,w3]
  refine qQ rfl (qQ rfl (qR rfl rfl (qS 22 rfl (oM · rfl) (qS 23 rfl (ok_len_str · rfl tu9 (.tmp rfl)) (qS 24 rfl (ok_move · (.int _ _)) (rE ?_))))))
  try dsimp only [w0,w1,w2,w3]
  refine q_block rfl (q_loop rfl ?_)
  try dsimp only [w0,w1,w2,w3]
  exact L1_snd  h
def f (k : Nat) (x0 : (List UInt8)) (x1 : Int) (x2 : Int) (x3 : Int) (S : HS) : Option ((Bool) × HS) :=
 (if (List.length x0 : Int) < x1 then
 J0 k x0 x3 true S else
 J0 k x0 x3 (decide ((List.length x0 : Int) > x2)) S)
theorem snd {k : Nat} {x0 : (List UInt8)} {x1 : Int} {x2 : Int} {x3 : Int} {S : HS}  {p : (Bool) × HS} (h : f k x0 x1 x2 x3 S = some p) : HCall Tryz.prog base W0 β0 86 [(.str x0),(.int .i64 x1),(.int .i64 x2),(.int .u16 x3)] S (fun v S1 => v = (.bool p.1) ∧ S1 = p.2) := by
 unfold f at h
 refine HCall.of_run at_.at_ body ?_
 show HRun Tryz.prog base W0 β0 86 none [.code c0] ⟨[(.str x0),(.int .i64 x1),(.int .i64 x2),(.int .u16 x3),τ,τ,τ,τ,τ,τ,τ,τ,τ,τ,τ,τ,τ,τ,τ,τ,τ,τ,τ,τ,τ,τ,τ,τ,τ,τ,τ,τ,τ,τ,τ,τ],[]⟩ S _
 refine qQ rfl (qR rfl rfl (qS 8 rfl (ok_assign · (.bool _)) (rE ?_)))
 try dsimp only [w0,w1,w2,w3]
 refine qQ rfl (qQ rfl (qR rfl rfl (qS 11 rfl (oM · rfl) (qS 12 rfl (ok_len_str · rfl tu9 (.tmp rfl)) (qS 13 rfl (oM · rfl) (qS 14 rfl (oB · rfl rfl rfl) ?_))))))
 try dsimp only [w0,w1,w2,w3]
 refine qS 15 rfl (oM · rfl) ?_
 rcases ifc h with ⟨hc1,h⟩ | ⟨hc1,h⟩
 ·refine q_skip (dst := some 16) (t := 15) rfl rfl rfl (decide_eq_true hc1) (q_skip (dst := some 17) (t := 15) rfl rfl rfl (decide_eq_true hc1) (q_skip (dst := some 18) (t := 15) rfl rfl rfl (decide_eq_true hc1) ?_))
  try dsimp only [w0,w1,w2,w3]
  refine q_skip (dst := some 19) (t := 15) rfl rfl rfl (decide_eq_true hc1) (qS 20 rfl (ok_pick_tt · (.tmp rfl) (decide_eq_true hc1) (.bool _)) (rE ?_))
  try dsimp only [w0,w1,w2,w3]
  try dsimp only [w0,w1,w2,w3]
  exact J0_snd  h
 ·refine qG 15 16 rfl (decide_eq_false hc1) (oM · rfl) (qG 15 17 rfl (decide_eq_false hc1) (ok_len_str · rfl tu9 (.tmp rfl)) (qG 15 18 rfl (decide_eq_false hc1) (oM · rfl) ?_))
  try dsimp only [w0,w1,w2,w3]
  refine qG 15 19 rfl (decide_eq_false hc1) (oB · rfl rfl rfl) (qS 20 rfl (ok_pick_ff · (.tmp rfl) (decide_eq_false hc1) (.tmp rfl)) (rE ?_))
  try dsimp only [w0,w1,w2,w3]
  try dsimp only [w0,w1,w2,w3]
  exact J0_snd  h
end
end valid_all
namespace slices_Reverse_timer_item_int_timer_item_int
theorem at_ : FnAt Tryz.prog 371 Tryz.f371 := ⟨Tryz.func371,by kernel_rfl⟩
noncomputable def d0 := (Tryz.f371.body).getD .skip
noncomputable def r1 := kR (kA d0)
noncomputable def r6 := kR (kA (kA (kA (kA (kB d0)))))
noncomputable def r12 := kR (kA (kA (kB (kA (kA (kB d0))))))
noncomputable def r13 := kR (kB (kB (kA (kA (kB d0)))))
noncomputable def c4 : Code := .seq (.seq (.region 1 r6 false) (.cond (.tmp 9) .skip (.exit 0))) (.seq (.block 1 (.region 3 r12 true)) (.region 2 r13 false))
noncomputable def c0 : Code := .seq (.region 0 r1 false) (.block 0 (.loop c4))
theorem body : Tryz.f371.body = some c0 := by kernel_rfl
section
variable {base : Nat} {W0 : Env} {β0 : Bt}
def L0 (k : Nat) : Nat → Sl → Int → Int → HS → Option ((Unit) × HS)
 | 0,_,_,_,_ => none
 | n + 1,y0,y2,y3,S =>
  (if y2 < y3 then
  (Option.bind (HS.idx S y0 y3 2) fun p2 =>
  (Option.bind (HS.ldI S .i64 (HA.fld p2 0)) fun p3 =>
  (Option.bind (HS.ldI S .i64 (HA.fld p2 1)) fun p4 =>
  (Option.bind (HS.idx S y0 y2 2) fun p5 =>
  (Option.bind (HS.ldI S .i64 (HA.fld p5 0)) fun p6 =>
  (Option.bind (HS.ldI S .i64 (HA.fld p5 1)) fun p7 =>
  (Option.bind (HS.idx S y0 y2 2) fun p8 =>
  (Option.bind (HS.sets S p8 [(.int .i64 p3),(.int .i64 p4)]) fun p9 =>
  (Option.bind (HS.idx p9 y0 y3 2) fun p10 =>
  (Option.bind (HS.sets p9 p10 [(.int .i64 p6),(.int .i64 p7)]) fun p11 =>
  (L0 k n) y0 (w64 (y2 + 1)) (w64 (y3 - 1)) p11)))))))))) else
  some ((),S))
theorem L0_snd {k : Nat}  : ∀ {n : Nat} ⦃y0 : Sl⦄ ⦃y2 : Int⦄ ⦃y3 : Int⦄ ⦃S : HS⦄ ⦃p : (Unit) × HS⦄ ⦃Gb Ge Gf Gg Gh Gi Gj Gk Gl Gm Gn Go Gp Gq Gr Gs Gt Gu Gv Gw Gx Gy Gz Ka Kb : HV⦄,L0 k n y0 y2 y3 S = some p → HRun Tryz.prog base W0 β0 371 none [.inLoop c4,.inBlock 0] ⟨[(Sl.hv y0),Gb,(.int .i64 y2),(.int .i64 y3),Ge,Gf,Gg,Gh,Gi,Gj,Gk,Gl,Gm,Gn,Go,Gp,Gq,Gr,Gs,Gt,Gu,Gv,Gw,Gx,Gy,Gz,Ka,Kb],[]⟩ S (fun v S1 => v = (.tup []) ∧ S1 = p.2) := by
 intro n
 induction n with
 | zero => intro _ _ _ _ _ _ _ _ _ _ _ _ _ _ _ _ _ _ _ _ _ _ _ _ _ _ _ _ _ _ h; cases h
 | succ n ih =>
  intro y0 y2 y3 S p Gb Ge Gf Gg Gh Gi Gj Gk Gl Gm Gn Go Gp Gq Gr Gs Gt Gu Gv Gw Gx Gy Gz Ka Kb h
  simp only [L0] at h
  refine hr_inLoop (qQ rfl (qQ rfl (qR rfl rfl (qS 7 rfl (oM · rfl) (qS 8 rfl (oM · rfl) (qS 9 rfl (oB · rfl rfl rfl) (rE ?_)))))))
  try dsimp only [w0,w1,w2,w3]
  rcases ifc h with ⟨hc1,h⟩ | ⟨hc1,h⟩
  ·refine q_cond_t rfl (.tmp rfl) (decide_eq_true hc1) (q_skipc rfl (qQ rfl (q_block rfl ?_)))
   refine x_start (cls := [0,0,0,0,0,0,1,1,0,0,1,1,1,2,1,2]) (rk := [0,1,12,13,2,3,4,5,6,7,8,9,10,11,14,15]) rfl (by kernel_rfl) ?_
   refine yf 14 [0] rfl (oM · rfl) ?_
   refine yf 15 [2] rfl (oM · rfl) ?_
   refine yf 16 [0] rfl (oM · rfl) ?_
   refine yf 17 [3] rfl (oM · rfl) ?_
   try dsimp only [w0,w1,w2,w3]
   refine yf 18 [0] rfl (oM · rfl) ?_
   refine yf 19 [3] rfl (oM · rfl) ?_
   obtain ⟨p2,hp2,h⟩ := bindo h
   refine yr 20 [18,19] rfl (oX (s := y0) · tu247 sz252 rfl rfl hp2) ?_
   obtain ⟨p3,hp3,h⟩ := bindo h
   obtain ⟨p4,hp4,h⟩ := bindo h
   refine yr 21 [20] rfl (ok_load_a (vs := [(.int .i64 p3),(.int .i64 p4)]) · ia252 (.tmp rfl) rfl ⟨ldI_out hp3,ldI_out hp4,trivial⟩ (by simp)) ?_
   try dsimp only [w0,w1,w2,w3]
   refine yf 22 [0] rfl (oM · rfl) ?_
   refine yf 23 [2] rfl (oM · rfl) ?_
   obtain ⟨p5,hp5,h⟩ := bindo h
   refine yr 24 [22,23] rfl (oX (s := y0) · tu247 sz252 rfl rfl hp5) ?_
   obtain ⟨p6,hp6,h⟩ := bindo h
   obtain ⟨p7,hp7,h⟩ := bindo h
   refine yr 25 [24] rfl (ok_load_a (vs := [(.int .i64 p6),(.int .i64 p7)]) · ia252 (.tmp rfl) rfl ⟨ldI_out hp6,ldI_out hp7,trivial⟩ (by simp)) ?_
   try dsimp only [w0,w1,w2,w3]
   obtain ⟨p8,hp8,h⟩ := bindo h
   refine yr 26 [14,15] rfl (oX (s := y0) · tu247 sz252 rfl rfl hp8) ?_
   obtain ⟨p9,hp9,h⟩ := bindo h
   refine x_go (e_op (dst := none) (ts := [26,21]) rfl (by intro _ _ h; cases h) (by kernel_rfl) (fun _ ho => ok_store_s (v := (.agg [(.int .i64 p3),(.int .i64 p4)])) ho sz252 (.tmp rfl) rfl (.tmp rfl) rfl hp9)) rfl ?_
   obtain ⟨p10,hp10,h⟩ := bindo h
   refine yr 27 [16,17] rfl (oX (s := y0) · tu247 sz252 rfl rfl hp10) ?_
   obtain ⟨p11,hp11,h⟩ := bindo h
   refine x_go (e_op (dst := none) (ts := [27,25]) rfl (by intro _ _ h; cases h) (by kernel_rfl) (fun _ ho => ok_store_s (v := (.agg [(.int .i64 p6),(.int .i64 p7)])) ho sz252 (.tmp rfl) rfl (.tmp rfl) rfl hp11)) rfl ?_
   refine x_rest rfl ?_
   refine rE ?_
   try dsimp only [w0,w1,w2,w3]
   refine hr_inBlock (qR rfl rfl (qS 10 rfl (oM · rfl) (qS 11 rfl (oC · rfl rfl) (qS 12 rfl (oM · rfl) (qS 13 rfl (oC · rfl rfl) ?_)))))
   try dsimp only [w0,w1,w2,w3]
   refine qS 2 rfl (oA · rfl) (qS 3 rfl (oA · rfl) (rE ?_))
   try dsimp only [w0,w1,w2,w3]
   try dsimp only [w0,w1,w2,w3]
   exact ih h
  ·cases h
   exact q_cond_f rfl (.tmp rfl) (decide_eq_false hc1) (q_exit rfl rfl (q_end at_.at_ rfl (res0 rfl) ⟨rfl,rfl⟩))
def f (k : Nat) (x0 : Sl) (S : HS) : Option ((Unit) × HS) :=
 L0 k k x0 0 (w64 ((Sl.len x0 : Int) - 1)) S
theorem snd {k : Nat} {x0 : Sl} {S : HS}  {p : (Unit) × HS} (h : f k x0 S = some p) : HCall Tryz.prog base W0 β0 371 [(Sl.hv x0)] S (fun v S1 => v = (.tup []) ∧ S1 = p.2) := by
 unfold f at h
 refine HCall.of_run at_.at_ body ?_
 show HRun Tryz.prog base W0 β0 371 none [.code c0] ⟨[(Sl.hv x0),τ,τ,τ,τ,τ,τ,τ,τ,τ,τ,τ,τ,τ,τ,τ,τ,τ,τ,τ,τ,τ,τ,τ,τ,τ,τ,τ],[]⟩ S _
 refine qQ rfl (qR rfl rfl (qS 4 rfl (oM · rfl) (qS 5 rfl (ok_len_sl (q := Sl.a x0) (n := Sl.len x0) (z := Sl.cap x0) · rfl tu247 (.tmp rfl)) (qS 6 rfl (oC · rfl rfl) (qS 2 rfl (ok_assign · (.int _ _)) ?_)))))
 try dsimp only [w0,w1,w2,w3]
 refine qS 3 rfl (oA · rfl) (rE ?_)
 try dsimp only [w0,w1,w2,w3]
 refine q_block rfl (q_loop rfl ?_)
 try dsimp only [w0,w1,w2,w3]
 exact L0_snd  h
end
end slices_Reverse_timer_item_int_timer_item_int
namespace slices_rotateLeft_timer_item_int
theorem at_ : FnAt Tryz.prog 275 Tryz.f275 := ⟨Tryz.func275,by kernel_rfl⟩
noncomputable def d0 := (Tryz.f275.body).getD .skip
noncomputable def r1 := kR (kA d0)
noncomputable def r3 := kR (kA (kB d0))
noncomputable def r4 := kR (kB (kB d0))
noncomputable def c0 : Code := .seq (.region 0 r1 false) (.seq (.region 1 r3 false) (.region 2 r4 false))
theorem body : Tryz.f275.body = some c0 := by kernel_rfl
section
variable {base : Nat} {W0 : Env} {β0 : Bt}
def f (k : Nat) (x0 : Sl) (x1 : Int) (S : HS) : Option ((Unit) × HS) :=
 (Option.bind (HS.cut S x0 0 x1 2) fun p1 =>
 (Option.bind (slices_Reverse_timer_item_int_timer_item_int.f k p1 S) fun p2 =>
 (Option.bind (HS.cut p2.2 x0 x1 (Sl.len x0 : Int) 2) fun p3 =>
 (Option.bind (slices_Reverse_timer_item_int_timer_item_int.f k p3 p2.2) fun p4 =>
 (Option.bind (slices_Reverse_timer_item_int_timer_item_int.f k x0 p4.2) fun p5 =>
 some ((),p5.2))))))
theorem snd {k : Nat} {x0 : Sl} {x1 : Int} {S : HS}  {p : (Unit) × HS} (h : f k x0 x1 S = some p) : HCall Tryz.prog base W0 β0 275 [(Sl.hv x0),(.int .i64 x1)] S (fun v S1 => v = (.tup []) ∧ S1 = p.2) := by
 unfold f at h
 refine HCall.of_run at_.at_ body ?_
 show HRun Tryz.prog base W0 β0 275 none [.code c0] ⟨[(Sl.hv x0),(.int .i64 x1),τ,τ,τ,τ,τ,τ,τ,τ,τ,τ,τ,τ],[]⟩ S _
 obtain ⟨p1,hp1,h⟩ := bindo h
 obtain ⟨p2,hp2,h⟩ := bindo h
 refine qQ rfl (qR rfl rfl (qS 4 rfl (oM · rfl) (qS 5 rfl (oM · rfl) (qS 6 rfl (ok_slice (kl := .i64) (kh := .i64) (s := x0) (l := 0) (h := x1) · tu247 si252 (.tmp rfl) (.inl ⟨rfl,rfl⟩) (.inr ⟨_,rfl,(.tmp rfl)⟩) hp1) (q_call (dst := some 7) rfl (.func _) (.cons (.tmp rfl) Evs.nil) (HInv.static slices_Reverse_timer_item_int_timer_item_int.at_ slices_Reverse_timer_item_int_timer_item_int.body (slices_Reverse_timer_item_int_timer_item_int.snd  hp2)) ?_)))))
 rintro _ _ ⟨rfl,rfl⟩
 refine rE ?_
 try dsimp only [w0,w1,w2,w3]
 obtain ⟨p3,hp3,h⟩ := bindo h
 obtain ⟨p4,hp4,h⟩ := bindo h
 refine qQ rfl (qR rfl rfl (qS 8 rfl (oM · rfl) (qS 9 rfl (oM · rfl) (qS 10 rfl (ok_slice (kl := .i64) (kh := .i64) (s := x0) (l := x1) (h := (Sl.len x0 : Int)) · tu247 si252 (.tmp rfl) (.inr ⟨_,rfl,(.tmp rfl)⟩) (.inl ⟨rfl,rfl⟩) hp3) (q_call (dst := some 11) rfl (.func _) (.cons (.tmp rfl) Evs.nil) (HInv.static slices_Reverse_timer_item_int_timer_item_int.at_ slices_Reverse_timer_item_int_timer_item_int.body (slices_Reverse_timer_item_int_timer_item_int.snd  hp4)) ?_)))))
 rintro _ _ ⟨rfl,rfl⟩
 refine rE ?_
 try dsimp only [w0,w1,w2,w3]
 obtain ⟨p5,hp5,h⟩ := bindo h
 refine qR rfl rfl (qS 12 rfl (oM · rfl) (q_call (dst := some 13) rfl (.func _) (.cons (.tmp rfl) Evs.nil) (HInv.static slices_Reverse_timer_item_int_timer_item_int.at_ slices_Reverse_timer_item_int_timer_item_int.body (slices_Reverse_timer_item_int_timer_item_int.snd  hp5)) ?_))
 rintro _ _ ⟨rfl,rfl⟩
 refine rE ?_
 try dsimp only [w0,w1,w2,w3]
 cases h
 exact q_end at_.at_ rfl (res0 rfl) ⟨rfl,rfl⟩
end
end slices_rotateLeft_timer_item_int
namespace slices_rotateRight_timer_item_int
theorem at_ : FnAt Tryz.prog 217 Tryz.f217 := ⟨Tryz.func217,by kernel_rfl⟩
noncomputable def d0 := (Tryz.f217.body).getD .skip
noncomputable def r0 := kR d0
noncomputable def c0 : Code := .region 0 r0 false
theorem body : Tryz.f217.body = some c0 := by kernel_rfl
section
variable {base : Nat} {W0 : Env} {β0 : Bt}
def f (k : Nat) (x0 : Sl) (x1 : Int) (S : HS) : Option ((Unit) × HS) :=
 (Option.bind (slices_rotateLeft_timer_item_int.f k x0 (w64 ((Sl.len x0 : Int) - x1)) S) fun p1 =>
 some ((),p1.2))
theorem snd {k : Nat} {x0 : Sl} {x1 : Int} {S : HS}  {p : (Unit) × HS} (h : f k x0 x1 S = some p) : HCall Tryz.prog base W0 β0 217 [(Sl.hv x0),(.int .i64 x1)] S (fun v S1 => v = (.tup []) ∧ S1 = p.2) := by
 unfold f at h
 refine HCall.of_run at_.at_ body ?_
 show HRun Tryz.prog base W0 β0 217 none [.code c0] ⟨[(Sl.hv x0),(.int .i64 x1),τ,τ,τ,τ,τ,τ,τ,τ],[]⟩ S _
 refine qR rfl rfl (qS 4 rfl (oM · rfl) (qS 5 rfl (oM · rfl) (qS 6 rfl (ok_len_sl (q := Sl.a x0) (n := Sl.len x0) (z := Sl.cap x0) · rfl tu247 (.tmp rfl)) (qS 7 rfl (oM · rfl) ?_))))
 try dsimp only [w0,w1,w2,w3]
 obtain ⟨p1,hp1,h⟩ := bindo h
 refine qS 8 rfl (oB · rfl rfl rfl) (q_call (dst := some 9) rfl (.func _) (.cons (.tmp rfl) (.cons (.tmp rfl) Evs.nil)) (HInv.static slices_rotateLeft_timer_item_int.at_ slices_rotateLeft_timer_item_int.body (slices_rotateLeft_timer_item_int.snd  hp1)) ?_)
 rintro _ _ ⟨rfl,rfl⟩
 refine rE ?_
 try dsimp only [w0,w1,w2,w3]
 cases h
 exact q_end at_.at_ rfl (res0 rfl) ⟨rfl,rfl⟩
end
end slices_rotateRight_timer_item_int
namespace slices_Insert_timer_item_int_timer_item_int
theorem at_ : FnAt Tryz.prog 167 Tryz.f167 := ⟨Tryz.func167,by kernel_rfl⟩
noncomputable def d0 := (Tryz.f167.body).getD .skip
noncomputable def r1 := kR (kA d0)
noncomputable def r3 := kR (kA (kB d0))
noncomputable def r5 := kR (kA (kB (kB d0)))
noncomputable def d6 := kB (kB (kB d0))
noncomputable def r8 := kR (kA (kA d6))
noncomputable def r11 := kR (kA (kA (kB (kA d6))))
noncomputable def r15 := kR (kA (kB d6))
noncomputable def r18 := kR (kA (kA (kB (kB d6))))
noncomputable def r21 := kR (kA (kA (kB (kA (kB (kB d6))))))
noncomputable def d24 := kB (kB (kB d6))
noncomputable def r26 := kR (kA (kA d24))
noncomputable def d28 := kA (kB (kA d24))
noncomputable def r29 := kR (kA d28)
noncomputable def r31 := kR (kA (kB d28))
noncomputable def r33 := kR (kA (kB (kB d28)))
noncomputable def r35 := kR (kA (kB (kB (kB d28))))
noncomputable def r39 := kR (kA (kB d24))
noncomputable def d41 := kA (kB (kB d24))
noncomputable def r42 := kR (kA d41)
noncomputable def r45 := kR (kA (kA (kB d41)))
noncomputable def r47 := kR (kA (kB (kA (kB d41))))
noncomputable def r49 := kR (kA (kB (kB (kA (kB d41)))))
noncomputable def r53 := kR (kA (kB (kB (kB d24))))
noncomputable def r55 := kR (kA (kB (kB (kB (kB d24)))))
noncomputable def r57 := kR (kA (kB (kB (kB (kB (kB d24))))))
noncomputable def c0 : Code := .seq (.region 0 r1 false) (.seq (.region 1 r3 false) (.seq (.region 2 r5 false) (.seq (.seq (.region 3 r8 false) (.cond (.tmp 16) (.seq (.region 4 r11 false) .ret) .skip)) (.seq (.region 5 r15 false) (.seq (.seq (.region 6 r18 false) (.cond (.tmp 22) (.seq (.region 7 r21 false) .ret) .skip)) (.seq (.seq (.region 8 r26 false) (.cond (.tmp 31) (.seq (.region 9 r29 false) (.seq (.region 10 r31 false) (.seq (.region 11 r33 true) (.seq (.region 12 r35 false) .ret)))) .skip)) (.seq (.region 13 r39 false) (.seq (.seq (.region 14 r42 false) (.cond (.tmp 68) (.seq (.region 15 r45 true) (.seq (.region 16 r47 false) (.seq (.region 17 r49 false) .ret))) .skip)) (.seq (.region 18 r53 false) (.seq (.region 19 r55 false) (.seq (.region 20 r57 false) .ret)))))))))))
theorem body : Tryz.f167.body = some c0 := by kernel_rfl
section
variable {base : Nat} {W0 : Env} {β0 : Bt}
def f (k : Nat) (x0 : Sl) (x1 : Int) (x2 : Sl) (S : HS) : Option ((Sl) × HS) :=
 (Option.bind (HS.cut S x0 x1 (Sl.len x0 : Int) 2) fun p1 =>
 (if (Sl.len x2 : Int) = 0 then
 some (x0,S) else
 (if x1 = (Sl.len x0 : Int) then
 (Option.bind (HS.rows S x2 2) fun p4 =>
 (Option.bind (HS.app S x0 p4 2) fun p5 =>
 some ((p5.1),(p5.2)))) else
 (Option.bind (Sl.capOf x0) fun p6 =>
 (if (w64 ((Sl.len x0 : Int) + (Sl.len x2 : Int))) > p6 then
 (Option.bind (HS.cut S x0 0 x1 2) fun p8 =>
 (Option.bind (HS.appZ S p8 (w64 ((w64 ((Sl.len x0 : Int) + (Sl.len x2 : Int))) - x1)) [(.int .i64 0),(.int .i64 0)] 2) fun p9 =>
 (Option.bind (HS.cut (p9.2) (p9.1) x1 (Sl.len (p9.1) : Int) 2) fun p10 =>
 (Option.bind (HS.rows (p9.2) x2 2) fun p11 =>
 (Option.bind (HS.over (p9.2) p10 (List.take (Sl.len p10) p11) 2) fun p12 =>
 (Option.bind (HS.cut p12 (p9.1) (w64 (x1 + (Sl.len x2 : Int))) (Sl.len (p9.1) : Int) 2) fun p13 =>
 (Option.bind (HS.cut p12 x0 x1 (Sl.len x0 : Int) 2) fun p14 =>
 (Option.bind (HS.rows p12 p14 2) fun p15 =>
 (Option.bind (HS.over p12 p13 (List.take (Sl.len p13) p15) 2) fun p16 =>
 some ((p9.1),p16)))))))))) else
 (Option.bind (HS.cut S x0 0 (w64 ((Sl.len x0 : Int) + (Sl.len x2 : Int))) 2) fun p17 =>
 (Option.bind (HS.cut S p17 (w64 (x1 + (Sl.len x2 : Int))) (Sl.len p17 : Int) 2) fun p18 =>
 (Option.bind (HS.ovl S x2 p18) fun p19 =>
 (if (!p19) = true then
 (Option.bind (HS.cut S p17 (w64 (x1 + (Sl.len x2 : Int))) (Sl.len p17 : Int) 2) fun p21 =>
 (Option.bind (HS.cut S p17 x1 (Sl.len p17 : Int) 2) fun p22 =>
 (Option.bind (HS.rows S p22 2) fun p23 =>
 (Option.bind (HS.over S p21 (List.take (Sl.len p21) p23) 2) fun p24 =>
 (Option.bind (HS.cut p24 p17 x1 (Sl.len p17 : Int) 2) fun p25 =>
 (Option.bind (HS.rows p24 x2 2) fun p26 =>
 (Option.bind (HS.over p24 p25 (List.take (Sl.len p25) p26) 2) fun p27 =>
 some (p17,p27)))))))) else
 (Option.bind (HS.cut S p17 (Sl.len x0 : Int) (Sl.len p17 : Int) 2) fun p28 =>
 (Option.bind (HS.rows S x2 2) fun p29 =>
 (Option.bind (HS.over S p28 (List.take (Sl.len p28) p29) 2) fun p30 =>
 (Option.bind (HS.cut p30 p17 x1 (Sl.len p17 : Int) 2) fun p31 =>
 (Option.bind (slices_rotateRight_timer_item_int.f k p31 (Sl.len x2 : Int) p30) fun p32 =>
 some (p17,p32.2)))))))))))))))
theorem snd {k : Nat} {x0 : Sl} {x1 : Int} {x2 : Sl} {S : HS}  {p : (Sl) × HS} (h : f k x0 x1 x2 S = some p) : HCall Tryz.prog base W0 β0 167 [(Sl.hv x0),(.int .i64 x1),(Sl.hv x2)] S (fun v S1 => v = (Sl.hv p.1) ∧ S1 = p.2) := by
 unfold f at h
 refine HCall.of_run at_.at_ body ?_
 show HRun Tryz.prog base W0 β0 167 none [.code c0] ⟨[(Sl.hv x0),(.int .i64 x1),(Sl.hv x2),τ,τ,τ,τ,τ,τ,τ,τ,τ,τ,τ,τ,τ,τ,τ,τ,τ,τ,τ,τ,τ,τ,τ,τ,τ,τ,τ,τ,τ,τ,τ,τ,τ,τ,τ,τ,τ,τ,τ,τ,τ,τ,τ,τ,τ,τ,τ,τ,τ,τ,τ,τ,τ,τ,τ,τ,τ,τ,τ,τ,τ,τ,τ,τ,τ,τ,τ,τ,τ,τ,τ,τ,τ,τ,τ,τ,τ,τ,τ,τ,τ,τ,τ,τ,τ,τ,τ,τ,τ,τ,τ,τ],[]⟩ S _
 refine qQ rfl (qR rfl rfl (qS 6 rfl (ok_assign · (.const fun _ => .slNil none)) (rE ?_)))
 try dsimp only [w0,w1,w2,w3]
 obtain ⟨p1,hp1,h⟩ := bindo h
 refine qQ rfl (qR rfl rfl (qS 10 rfl (oM · rfl) (qS 11 rfl (oM · rfl) (qS 12 rfl (ok_slice (kl := .i64) (kh := .i64) (s := x0) (l := x1) (h := (Sl.len x0 : Int)) · tu247 si252 (.tmp rfl) (.inr ⟨_,rfl,(.tmp rfl)⟩) (.inl ⟨rfl,rfl⟩) hp1) (rE ?_)))))
 try dsimp only [w0,w1,w2,w3]
 refine qQ rfl (qR rfl rfl (qS 13 rfl (oM · rfl) (qS 14 rfl (ok_len_sl (q := Sl.a x2) (n := Sl.len x2) (z := Sl.cap x2) · rfl tu247 (.tmp rfl)) (qS 7 rfl (oA · rfl) (rE ?_)))))
 try dsimp only [w0,w1,w2,w3]
 refine qQ rfl (qQ rfl (qR rfl rfl (qS 15 rfl (oM · rfl) (qS 16 rfl (oC · rfl rfl) (rE ?_)))))
 try dsimp only [w0,w1,w2,w3]
 rcases ifc h with ⟨hc2,h⟩ | ⟨hc2,h⟩
 ·refine q_cond_t rfl (.tmp rfl) (decide_eq_true hc2) (qQ rfl (qR rfl rfl (qS 17 rfl (oM · rfl) (qS 6 rfl (oA · rfl) (rE ?_)))))
  try dsimp only [w0,w1,w2,w3]
  cases h
  exact q_ret rfl at_.at_ rfl (res1 rfl rfl) ⟨rfl,rfl⟩
 ·refine q_cond_f rfl (.tmp rfl) (decide_eq_false hc2) (q_skipc rfl (qQ rfl (qR rfl rfl (qS 18 rfl (oM · rfl) (qS 19 rfl (ok_len_sl (q := Sl.a x0) (n := Sl.len x0) (z := Sl.cap x0) · rfl tu247 (.tmp rfl)) (qS 8 rfl (oA · rfl) (rE ?_)))))))
  try dsimp only [w0,w1,w2,w3]
  refine qQ rfl (qQ rfl (qR rfl rfl (qS 20 rfl (oM · rfl) (qS 21 rfl (oM · rfl) (qS 22 rfl (oB · rfl rfl rfl) (rE ?_))))))
  try dsimp only [w0,w1,w2,w3]
  rcases ifc h with ⟨hc3,h⟩ | ⟨hc3,h⟩
  ·obtain ⟨p4,hp4,h⟩ := bindo h
   obtain ⟨p5,hp5,h⟩ := bindo h
   refine q_cond_t rfl (.tmp rfl) (decide_eq_true hc3) (qQ rfl (qR rfl rfl (qS 23 rfl (oM · rfl) (qS 24 rfl (oM · rfl) (qS 25 rfl (ok_append (s := x0) (s1 := x2) el247 · rfl rfl ⟨_,tu247⟩ (.tmp rfl) (.tmp rfl) hp4 hp5) (qS 6 rfl (oA · rfl) (rE ?_)))))))
   try dsimp only [w0,w1,w2,w3]
   cases h
   exact q_ret rfl at_.at_ rfl (res1 rfl rfl) ⟨rfl,rfl⟩
  ·refine q_cond_f rfl (.tmp rfl) (decide_eq_false hc3) (q_skipc rfl (qQ rfl (qQ rfl (qR rfl rfl (qS 26 rfl (oM · rfl) (qS 27 rfl (oM · rfl) (qS 28 rfl (oB · rfl rfl rfl) (qS 29 rfl (oM · rfl) ?_))))))))
   try dsimp only [w0,w1,w2,w3]
   obtain ⟨p6,hp6,h⟩ := bindo h
   refine qS 30 rfl (ok_cap (s := x0) · rfl tu247 (.tmp rfl) hp6) (qS 31 rfl (oB · rfl rfl rfl) (rE ?_))
   try dsimp only [w0,w1,w2,w3]
   rcases ifc h with ⟨hc7,h⟩ | ⟨hc7,h⟩
   ·obtain ⟨p8,hp8,h⟩ := bindo h
    refine q_cond_t rfl (.tmp rfl) (decide_eq_true hc7) (qQ rfl (qR rfl rfl (qS 32 rfl (oM · rfl) (qS 33 rfl (oM · rfl) (qS 34 rfl (ok_slice (kl := .i64) (kh := .i64) (s := x0) (l := 0) (h := x1) · tu247 si252 (.tmp rfl) (.inl ⟨rfl,rfl⟩) (.inr ⟨_,rfl,(.tmp rfl)⟩) hp8) (qS 35 rfl (oM · rfl) ?_))))))
    try dsimp only [w0,w1,w2,w3]
    refine qS 36 rfl (oM · rfl) (qS 37 rfl (oB · rfl rfl rfl) (qS 38 rfl (oM · rfl) (qS 39 rfl (oB · rfl rfl rfl) ?_)))
    try dsimp only [w0,w1,w2,w3]
    obtain ⟨p9,hp9,h⟩ := bindo h
    refine qS 40 rfl (ok_append_zeros (s := p8) el247 · rfl rfl tu3 (.tmp rfl) (.tmp rfl) hp9) (qS 9 rfl (oA · rfl) (rE ?_))
    try dsimp only [w0,w1,w2,w3]
    obtain ⟨p10,hp10,h⟩ := bindo h
    refine qQ rfl (qR rfl rfl (qS 41 rfl (oM · rfl) (qS 42 rfl (oM · rfl) (qS 43 rfl (ok_slice (kl := .i64) (kh := .i64) (s := (p9.1)) (l := x1) (h := (Sl.len (p9.1) : Int)) · tu247 si252 (.tmp rfl) (.inr ⟨_,rfl,(.tmp rfl)⟩) (.inl ⟨rfl,rfl⟩) hp10) (qS 44 rfl (oM · rfl) ?_)))))
    try dsimp only [w0,w1,w2,w3]
    obtain ⟨p11,hp11,h⟩ := bindo h
    obtain ⟨p12,hp12,h⟩ := bindo h
    refine qS 45 rfl (ok_copy (s := p10) (s1 := x2) el247 · rfl (.tmp rfl) (.tmp rfl) hp11 hp12) (rE ?_)
    try dsimp only [w0,w1,w2,w3]
    refine qQ rfl ?_
    refine x_start (cls := [0,0,0,0,1,0,0,1,2]) (rk := [0,1,2,3,4,5,6,7,8]) rfl (by kernel_rfl) ?_
    refine yf 46 [9] rfl (oM · rfl) ?_
    refine yf 47 [1] rfl (oM · rfl) ?_
    refine yf 48 [7] rfl (oM · rfl) ?_
    refine yf 49 [47,48] rfl (oB · rfl rfl rfl) ?_
    try dsimp only [w0,w1,w2,w3]
    obtain ⟨p13,hp13,h⟩ := bindo h
    refine yr 50 [46,49] rfl (ok_slice (kl := .i64) (kh := .i64) (s := (p9.1)) (l := (w64 (x1 + (Sl.len x2 : Int)))) (h := (Sl.len (p9.1) : Int)) · tu247 si252 (.tmp rfl) (.inr ⟨_,rfl,(.tmp rfl)⟩) (.inl ⟨rfl,rfl⟩) hp13) ?_
    refine yf 51 [0] rfl (oM · rfl) ?_
    refine yf 52 [1] rfl (oM · rfl) ?_
    obtain ⟨p14,hp14,h⟩ := bindo h
    refine yr 53 [51,52] rfl (ok_slice (kl := .i64) (kh := .i64) (s := x0) (l := x1) (h := (Sl.len x0 : Int)) · tu247 si252 (.tmp rfl) (.inr ⟨_,rfl,(.tmp rfl)⟩) (.inl ⟨rfl,rfl⟩) hp14) ?_
    try dsimp only [w0,w1,w2,w3]
    obtain ⟨p15,hp15,h⟩ := bindo h
    obtain ⟨p16,hp16,h⟩ := bindo h
    refine ye 54 [50,53] rfl (ok_copy (s := p13) (s1 := p14) el247 · rfl (.tmp rfl) (.tmp rfl) hp15 hp16) ?_
    refine x_rest rfl ?_
    refine rE ?_
    try dsimp only [w0,w1,w2,w3]
    refine qQ rfl (qR rfl rfl (qS 55 rfl (oM · rfl) (qS 6 rfl (oA · rfl) (rE ?_))))
    try dsimp only [w0,w1,w2,w3]
    cases h
    exact q_ret rfl at_.at_ rfl (res1 rfl rfl) ⟨rfl,rfl⟩
   ·refine q_cond_f rfl (.tmp rfl) (decide_eq_false hc7) (q_skipc rfl (qQ rfl (qR rfl rfl (qS 56 rfl (oM · rfl) (qS 57 rfl (oM · rfl) (qS 58 rfl (oM · rfl) (qS 59 rfl (oB · rfl rfl rfl) ?_)))))))
    try dsimp only [w0,w1,w2,w3]
    obtain ⟨p17,hp17,h⟩ := bindo h
    refine qS 60 rfl (ok_slice (kl := .i64) (kh := .i64) (s := x0) (l := 0) (h := (w64 ((Sl.len x0 : Int) + (Sl.len x2 : Int)))) · tu247 si252 (.tmp rfl) (.inl ⟨rfl,rfl⟩) (.inr ⟨_,rfl,(.tmp rfl)⟩) hp17) (qS 0 rfl (oA · rfl) (rE ?_))
    try dsimp only [w0,w1,w2,w3]
    refine qQ rfl (qQ rfl (qR rfl rfl (qS 61 rfl (oM · rfl) (qS 62 rfl (oM · rfl) (qS 63 rfl (oM · rfl) (qS 64 rfl (oM · rfl) ?_))))))
    try dsimp only [w0,w1,w2,w3]
    obtain ⟨p18,hp18,h⟩ := bindo h
    obtain ⟨p19,hp19,h⟩ := bindo h
    refine qS 65 rfl (oB · rfl rfl rfl) (qS 66 rfl (ok_slice (kl := .i64) (kh := .i64) (s := p17) (l := (w64 (x1 + (Sl.len x2 : Int)))) (h := (Sl.len p17 : Int)) · tu247 si252 (.tmp rfl) (.inr ⟨_,rfl,(.tmp rfl)⟩) (.inl ⟨rfl,rfl⟩) hp18) (qS 67 rfl (ok_overlaps (s1 := x2) (s2 := p18) · ext216 tu247 si252 (.tmp rfl) (.tmp rfl) hp19) (qS 68 rfl (ok_not · (.tmp rfl)) (rE ?_))))
    try dsimp only [w0,w1,w2,w3]
    rcases ifc h with ⟨hc20,h⟩ | ⟨hc20,h⟩
    ·refine q_cond_t rfl (.tmp rfl) hc20 (qQ rfl ?_)
     refine x_start (cls := [0,0,0,0,1,0,0,1,2]) (rk := [0,1,2,3,4,5,6,7,8]) rfl (by kernel_rfl) ?_
     refine yf 69 [0] rfl (oM · rfl) ?_
     refine yf 70 [1] rfl (oM · rfl) ?_
     refine yf 71 [7] rfl (oM · rfl) ?_
     refine yf 72 [70,71] rfl (oB · rfl rfl rfl) ?_
     try dsimp only [w0,w1,w2,w3]
     obtain ⟨p21,hp21,h⟩ := bindo h
     refine yr 73 [69,72] rfl (ok_slice (kl := .i64) (kh := .i64) (s := p17) (l := (w64 (x1 + (Sl.len x2 : Int)))) (h := (Sl.len p17 : Int)) · tu247 si252 (.tmp rfl) (.inr ⟨_,rfl,(.tmp rfl)⟩) (.inl ⟨rfl,rfl⟩) hp21) ?_
     refine yf 74 [0] rfl (oM · rfl) ?_
     refine yf 75 [1] rfl (oM · rfl) ?_
     obtain ⟨p22,hp22,h⟩ := bindo h
     refine yr 76 [74,75] rfl (ok_slice (kl := .i64) (kh := .i64) (s := p17) (l := x1) (h := (Sl.len p17 : Int)) · tu247 si252 (.tmp rfl) (.inr ⟨_,rfl,(.tmp rfl)⟩) (.inl ⟨rfl,rfl⟩) hp22) ?_
     try dsimp only [w0,w1,w2,w3]
     obtain ⟨p23,hp23,h⟩ := bindo h
     obtain ⟨p24,hp24,h⟩ := bindo h
     refine ye 77 [73,76] rfl (ok_copy (s := p21) (s1 := p22) el247 · rfl (.tmp rfl) (.tmp rfl) hp23 hp24) ?_
     refine x_rest rfl ?_
     refine rE ?_
     try dsimp only [w0,w1,w2,w3]
     obtain ⟨p25,hp25,h⟩ := bindo h
     refine qQ rfl (qR rfl rfl (qS 78 rfl (oM · rfl) (qS 79 rfl (oM · rfl) (qS 80 rfl (ok_slice (kl := .i64) (kh := .i64) (s := p17) (l := x1) (h := (Sl.len p17 : Int)) · tu247 si252 (.tmp rfl) (.inr ⟨_,rfl,(.tmp rfl)⟩) (.inl ⟨rfl,rfl⟩) hp25) (qS 81 rfl (oM · rfl) ?_)))))
     try dsimp only [w0,w1,w2,w3]
     obtain ⟨p26,hp26,h⟩ := bindo h
     obtain ⟨p27,hp27,h⟩ := bindo h
     refine qS 82 rfl (ok_copy (s := p25) (s1 := x2) el247 · rfl (.tmp rfl) (.tmp rfl) hp26 hp27) (rE ?_)
     try dsimp only [w0,w1,w2,w3]
     refine qQ rfl (qR rfl rfl (qS 83 rfl (oM · rfl) (qS 6 rfl (oA · rfl) (rE ?_))))
     try dsimp only [w0,w1,w2,w3]
     cases h
     exact q_ret rfl at_.at_ rfl (res1 rfl rfl) ⟨rfl,rfl⟩
    ·obtain ⟨p28,hp28,h⟩ := bindo h
     refine q_cond_f rfl (.tmp rfl) (bfalse hc20) (q_skipc rfl (qQ rfl (qR rfl rfl (qS 84 rfl (oM · rfl) (qS 85 rfl (oM · rfl) (qS 86 rfl (ok_slice (kl := .i64) (kh := .i64) (s := p17) (l := (Sl.len x0 : Int)) (h := (Sl.len p17 : Int)) · tu247 si252 (.tmp rfl) (.inr ⟨_,rfl,(.tmp rfl)⟩) (.inl ⟨rfl,rfl⟩) hp28) (qS 87 rfl (oM · rfl) ?_)))))))
     try dsimp only [w0,w1,w2,w3]
     obtain ⟨p29,hp29,h⟩ := bindo h
     obtain ⟨p30,hp30,h⟩ := bindo h
     refine qS 88 rfl (ok_copy (s := p28) (s1 := x2) el247 · rfl (.tmp rfl) (.tmp rfl) hp29 hp30) (rE ?_)
     try dsimp only [w0,w1,w2,w3]
     obtain ⟨p31,hp31,h⟩ := bindo h
     refine qQ rfl (qR rfl rfl (qS 89 rfl (oM · rfl) (qS 90 rfl (oM · rfl) (qS 91 rfl (ok_slice (kl := .i64) (kh := .i64) (s := p17) (l := x1) (h := (Sl.len p17 : Int)) · tu247 si252 (.tmp rfl) (.inr ⟨_,rfl,(.tmp rfl)⟩) (.inl ⟨rfl,rfl⟩) hp31) (qS 92 rfl (oM · rfl) ?_)))))
     try dsimp only [w0,w1,w2,w3]
     obtain ⟨p32,hp32,h⟩ := bindo h
     refine q_call (dst := some 93) rfl (.func _) (.cons (.tmp rfl) (.cons (.tmp rfl) Evs.nil)) (HInv.static slices_rotateRight_timer_item_int.at_ slices_rotateRight_timer_item_int.body (slices_rotateRight_timer_item_int.snd  hp32)) ?_
     rintro _ _ ⟨rfl,rfl⟩
     refine rE ?_
     try dsimp only [w0,w1,w2,w3]
     refine qQ rfl (qR rfl rfl (qS 94 rfl (oM · rfl) (qS 6 rfl (oA · rfl) (rE ?_))))
     try dsimp only [w0,w1,w2,w3]
     cases h
     exact q_ret rfl at_.at_ rfl (res1 rfl rfl) ⟨rfl,rfl⟩
end
end slices_Insert_timer_item_int_timer_item_int
namespace slices_Insert_timer_item_int_timer_item_int_w
theorem at_ : FnAt Tryz.prog 167 Tryz.f167 := slices_Insert_timer_item_int_timer_item_int.at_
theorem body : Tryz.f167.body = some slices_Insert_timer_item_int_timer_item_int.c0 := slices_Insert_timer_item_int_timer_item_int.body
def f (x0 : Sl) (x1 : Int) (x2 : Sl) (S : HS) : Option ((Sl) × HS) := HS.ins S x0 x1 x2 2
theorem snd {base : Nat} {W0 : Env} {β0 : Bt} {x0 : Sl} {x1 : Int} {x2 : Sl} {S : HS} {p : (Sl) × HS} (h : f x0 x1 x2 S = some p) : HCall Tryz.prog base W0 β0 167 [(Sl.hv x0),(.int .i64 x1),(Sl.hv x2)] S (fun v S1 => v = (Sl.hv p.1) ∧ S1 = p.2) :=
 ins_snd (rot := fun a b T => slices_rotateRight_timer_item_int.f 0 a b T) (zr := [(.int .i64 0),(.int .i64 0)]) (fun _ _ _ h => slices_Insert_timer_item_int_timer_item_int.snd (k := 0) h) h
end slices_Insert_timer_item_int_timer_item_int_w
namespace slices_Delete_timer_item_int_timer_item_int
theorem at_ : FnAt Tryz.prog 214 Tryz.f214 := ⟨Tryz.func214,by kernel_rfl⟩
noncomputable def d0 := (Tryz.f214.body).getD .skip
noncomputable def r1 := kR (kA d0)
noncomputable def r3 := kR (kA (kB d0))
noncomputable def r6 := kR (kA (kA (kB (kB d0))))
noncomputable def r9 := kR (kA (kA (kB (kA (kB (kB d0))))))
noncomputable def d12 := kB (kB (kB d0))
noncomputable def r13 := kR (kA d12)
noncomputable def r15 := kR (kA (kB d12))
noncomputable def r17 := kR (kA (kB (kB d12)))
noncomputable def r19 := kR (kA (kB (kB (kB d12))))
noncomputable def c0 : Code := .seq (.region 0 r1 false) (.seq (.region 1 r3 false) (.seq (.seq (.region 2 r6 false) (.cond (.tmp 16) (.seq (.region 3 r9 false) .ret) .skip)) (.seq (.region 4 r13 false) (.seq (.region 5 r15 true) (.seq (.region 6 r17 false) (.seq (.region 7 r19 false) .ret))))))
theorem body : Tryz.f214.body = some c0 := by kernel_rfl
section
variable {base : Nat} {W0 : Env} {β0 : Bt}
def f (x0 : Sl) (x1 : Int) (x2 : Int) (S : HS) : Option ((Sl) × HS) :=
 (Option.bind (HS.cut3 S x0 x1 x2 (Sl.len x0 : Int) 2) fun p1 =>
 (if x1 = x2 then
 some (x0,S) else
 (Option.bind (HS.cut S x0 0 x1 2) fun p3 =>
 (Option.bind (HS.cut S x0 x2 (Sl.len x0 : Int) 2) fun p4 =>
 (Option.bind (HS.rows S p4 2) fun p5 =>
 (Option.bind (HS.app S p3 p5 2) fun p6 =>
 (Option.bind (HS.cut (p6.2) (p6.1) (Sl.len (p6.1) : Int) (Sl.len x0 : Int) 2) fun p7 =>
 (Option.bind (HS.over (p6.2) p7 (List.replicate (Sl.len p7) [(.int .i64 0),(.int .i64 0)]) 2) fun p8 =>
 some ((p6.1),p8)))))))))
theorem snd {x0 : Sl} {x1 : Int} {x2 : Int} {S : HS}  {p : (Sl) × HS} (h : f x0 x1 x2 S = some p) : HCall Tryz.prog base W0 β0 214 [(Sl.hv x0),(.int .i64 x1),(.int .i64 x2)] S (fun v S1 => v = (Sl.hv p.1) ∧ S1 = p.2) := by
 unfold f at h
 refine HCall.of_run at_.at_ body ?_
 show HRun Tryz.prog base W0 β0 214 none [.code c0] ⟨[(Sl.hv x0),(.int .i64 x1),(.int .i64 x2),τ,τ,τ,τ,τ,τ,τ,τ,τ,τ,τ,τ,τ,τ,τ,τ,τ,τ,τ,τ,τ,τ,τ,τ,τ,τ,τ,τ,τ,τ],[]⟩ S _
 refine qQ rfl (qR rfl rfl (qS 6 rfl (ok_assign · (.const fun _ => .slNil none)) (rE ?_)))
 try dsimp only [w0,w1,w2,w3]
 refine qQ rfl (qR rfl rfl (qS 8 rfl (oM · rfl) (qS 9 rfl (oM · rfl) (qS 10 rfl (oM · rfl) (qS 11 rfl (oM · rfl) ?_)))))
 try dsimp only [w0,w1,w2,w3]
 obtain ⟨p1,hp1,h⟩ := bindo h
 refine qS 12 rfl (ok_len_sl (q := Sl.a x0) (n := Sl.len x0) (z := Sl.cap x0) · rfl tu247 (.tmp rfl)) (qS 13 rfl (ok_slice3 (kl := .i64) (kh := .i64) (s := x0) (l := x1) (h := x2) · tu247 si252 (.tmp rfl) (.inr ⟨_,rfl,(.tmp rfl)⟩) (.inr ⟨_,rfl,(.tmp rfl)⟩) (.tmp rfl) hp1) (rE ?_))
 try dsimp only [w0,w1,w2,w3]
 refine qQ rfl (qQ rfl (qR rfl rfl (qS 14 rfl (oM · rfl) (qS 15 rfl (oM · rfl) (qS 16 rfl (oB · rfl rfl rfl) (rE ?_))))))
 try dsimp only [w0,w1,w2,w3]
 rcases ifc h with ⟨hc2,h⟩ | ⟨hc2,h⟩
 ·refine q_cond_t rfl (.tmp rfl) (decide_eq_true hc2) (qQ rfl (qR rfl rfl (qS 17 rfl (oM · rfl) (qS 6 rfl (oA · rfl) (rE ?_)))))
  try dsimp only [w0,w1,w2,w3]
  cases h
  exact q_ret rfl at_.at_ rfl (res1 rfl rfl) ⟨rfl,rfl⟩
 ·refine q_cond_f rfl (.tmp rfl) (decide_eq_false hc2) (q_skipc rfl (qQ rfl (qR rfl rfl (qS 18 rfl (oM · rfl) (qS 19 rfl (ok_len_sl (q := Sl.a x0) (n := Sl.len x0) (z := Sl.cap x0) · rfl tu247 (.tmp rfl)) (qS 7 rfl (oA · rfl) (rE ?_)))))))
  try dsimp only [w0,w1,w2,w3]
  refine qQ rfl ?_
  refine x_start (cls := [0,0,1,0,0,1,2,0]) (rk := [0,1,2,3,4,5,6,7]) rfl (by kernel_rfl) ?_
  refine yf 20 [0] rfl (oM · rfl) ?_
  refine yf 21 [1] rfl (oM · rfl) ?_
  obtain ⟨p3,hp3,h⟩ := bindo h
  refine yr 22 [20,21] rfl (ok_slice (kl := .i64) (kh := .i64) (s := x0) (l := 0) (h := x1) · tu247 si252 (.tmp rfl) (.inl ⟨rfl,rfl⟩) (.inr ⟨_,rfl,(.tmp rfl)⟩) hp3) ?_
  refine yf 23 [0] rfl (oM · rfl) ?_
  try dsimp only [w0,w1,w2,w3]
  refine yf 24 [2] rfl (oM · rfl) ?_
  obtain ⟨p4,hp4,h⟩ := bindo h
  refine yr 25 [23,24] rfl (ok_slice (kl := .i64) (kh := .i64) (s := x0) (l := x2) (h := (Sl.len x0 : Int)) · tu247 si252 (.tmp rfl) (.inr ⟨_,rfl,(.tmp rfl)⟩) (.inl ⟨rfl,rfl⟩) hp4) ?_
  obtain ⟨p5,hp5,h⟩ := bindo h
  obtain ⟨p6,hp6,h⟩ := bindo h
  refine ye 26 [22,25] rfl (ok_append (s := p3) (s1 := p4) el247 · rfl rfl ⟨_,tu247⟩ (.tmp rfl) (.tmp rfl) hp5 hp6) ?_
  refine yf 0 [26] rfl (oA · rfl) ?_
  refine x_rest rfl ?_
  refine rE ?_
  try dsimp only [w0,w1,w2,w3]
  refine qQ rfl (qR rfl rfl (qS 27 rfl (oM · rfl) (qS 28 rfl (oM · rfl) (qS 29 rfl (ok_len_sl (q := Sl.a (p6.1)) (n := Sl.len (p6.1)) (z := Sl.cap (p6.1)) · rfl tu247 (.tmp rfl)) (qS 30 rfl (oM · rfl) ?_)))))
  try dsimp only [w0,w1,w2,w3]
  obtain ⟨p7,hp7,h⟩ := bindo h
  obtain ⟨p8,hp8,h⟩ := bindo h
  refine qS 31 rfl (ok_slice (kl := .i64) (kh := .i64) (s := (p6.1)) (l := (Sl.len (p6.1) : Int)) (h := (Sl.len x0 : Int)) · tu247 si252 (.tmp rfl) (.inr ⟨_,rfl,(.tmp rfl)⟩) (.inr ⟨_,rfl,(.tmp rfl)⟩) hp7) (qN rfl (ok_clear (s := p7) el247 · rfl (.tmp rfl) hp8) (rE ?_))
  try dsimp only [w0,w1,w2,w3]
  refine qQ rfl (qR rfl rfl (qS 32 rfl (oM · rfl) (qS 6 rfl (oA · rfl) (rE ?_))))
  try dsimp only [w0,w1,w2,w3]
  cases h
  exact q_ret rfl at_.at_ rfl (res1 rfl rfl) ⟨rfl,rfl⟩
end
end slices_Delete_timer_item_int_timer_item_int
namespace slices_Delete_timer_item_int_timer_item_int_w
theorem at_ : FnAt Tryz.prog 214 Tryz.f214 := slices_Delete_timer_item_int_timer_item_int.at_
theorem body : Tryz.f214.body = some slices_Delete_timer_item_int_timer_item_int.c0 := slices_Delete_timer_item_int_timer_item_int.body
def f (x0 : Sl) (x1 : Int) (x2 : Int) (S : HS) : Option ((Sl) × HS) := HS.del S x0 x1 x2 2
theorem snd {base : Nat} {W0 : Env} {β0 : Bt} {x0 : Sl} {x1 x2 : Int} {S : HS} {p : (Sl) × HS} (h : f x0 x1 x2 S = some p) : HCall Tryz.prog base W0 β0 214 [(Sl.hv x0),(.int .i64 x1),(.int .i64 x2)] S (fun v S1 => v = (Sl.hv p.1) ∧ S1 = p.2) :=
 del_snd (zr := [(.int .i64 0),(.int .i64 0)]) (fun _ _ _ h => slices_Delete_timer_item_int_timer_item_int.snd h) h
end slices_Delete_timer_item_int_timer_item_int_w
namespace slices_Reverse_int_int
theorem at_ : FnAt Tryz.prog 468 Tryz.f468 := ⟨Tryz.func468,by kernel_rfl⟩
noncomputable def d0 := (Tryz.f468.body).getD .skip
noncomputable def r1 := kR (kA d0)
noncomputable def r6 := kR (kA (kA (kA (kA (kB d0)))))
noncomputable def r12 := kR (kA (kA (kB (kA (kA (kB d0))))))
noncomputable def r13 := kR (kB (kB (kA (kA (kB d0)))))
noncomputable def c4 : Code := .seq (.seq (.region 1 r6 false) (.cond (.tmp 9) .skip (.exit 0))) (.seq (.block 1 (.region 3 r12 true)) (.region 2 r13 false))
noncomputable def c0 : Code := .seq (.region 0 r1 false) (.block 0 (.loop c4))
theorem body : Tryz.f468.body = some c0 := by kernel_rfl
section
variable {base : Nat} {W0 : Env} {β0 : Bt}
def L0 (k : Nat) : Nat → Sl → Int → Int → HS → Option ((Unit) × HS)
 | 0,_,_,_,_ => none
 | n + 1,y0,y2,y3,S =>
  (if y2 < y3 then
  (Option.bind (HS.idx S y0 y3 1) fun p2 =>
  (Option.bind (HS.ldI S .i64 p2) fun p3 =>
  (Option.bind (HS.idx S y0 y2 1) fun p4 =>
  (Option.bind (HS.ldI S .i64 p4) fun p5 =>
  (Option.bind (HS.idx S y0 y2 1) fun p6 =>
  (Option.bind (HS.sets S p6 [(.int .i64 p3)]) fun p7 =>
  (Option.bind (HS.idx p7 y0 y3 1) fun p8 =>
  (Option.bind (HS.sets p7 p8 [(.int .i64 p5)]) fun p9 =>
  (L0 k n) y0 (w64 (y2 + 1)) (w64 (y3 - 1)) p9)))))))) else
  some ((),S))
theorem L0_snd {k : Nat}  : ∀ {n : Nat} ⦃y0 : Sl⦄ ⦃y2 : Int⦄ ⦃y3 : Int⦄ ⦃S : HS⦄ ⦃p : (Unit) × HS⦄ ⦃Gb Ge Gf Gg Gh Gi Gj Gk Gl Gm Gn Go Gp Gq Gr Gs Gt Gu Gv Gw Gx Gy Gz Ka Kb : HV⦄,L0 k n y0 y2 y3 S = some p → HRun Tryz.prog base W0 β0 468 none [.inLoop c4,.inBlock 0] ⟨[(Sl.hv y0),Gb,(.int .i64 y2),(.int .i64 y3),Ge,Gf,Gg,Gh,Gi,Gj,Gk,Gl,Gm,Gn,Go,Gp,Gq,Gr,Gs,Gt,Gu,Gv,Gw,Gx,Gy,Gz,Ka,Kb],[]⟩ S (fun v S1 => v = (.tup []) ∧ S1 = p.2) := by
 intro n
 induction n with
 | zero => intro _ _ _ _ _ _ _ _ _ _ _ _ _ _ _ _ _ _ _ _ _ _ _ _ _ _ _ _ _ _ h; cases h
 | succ n ih =>
  intro y0 y2 y3 S p Gb Ge Gf Gg Gh Gi Gj Gk Gl Gm Gn Go Gp Gq Gr Gs Gt Gu Gv Gw Gx Gy Gz Ka Kb h
  simp only [L0] at h
  refine hr_inLoop (qQ rfl (qQ rfl (qR rfl rfl (qS 7 rfl (oM · rfl) (qS 8 rfl (oM · rfl) (qS 9 rfl (oB · rfl rfl rfl) (rE ?_)))))))
  try dsimp only [w0,w1,w2,w3]
  rcases ifc h with ⟨hc1,h⟩ | ⟨hc1,h⟩
  ·refine q_cond_t rfl (.tmp rfl) (decide_eq_true hc1) (q_skipc rfl (qQ rfl (q_block rfl ?_)))
   refine x_start (cls := [0,0,0,0,0,0,1,1,0,0,1,1,1,2,1,2]) (rk := [0,1,12,13,2,3,4,5,6,7,8,9,10,11,14,15]) rfl (by kernel_rfl) ?_
   refine yf 14 [0] rfl (oM · rfl) ?_
   refine yf 15 [2] rfl (oM · rfl) ?_
   refine yf 16 [0] rfl (oM · rfl) ?_
   refine yf 17 [3] rfl (oM · rfl) ?_
   try dsimp only [w0,w1,w2,w3]
   refine yf 18 [0] rfl (oM · rfl) ?_
   refine yf 19 [3] rfl (oM · rfl) ?_
   obtain ⟨p2,hp2,h⟩ := bindo h
   refine yr 20 [18,19] rfl (oX (s := y0) · tu76 sz3 rfl rfl hp2) ?_
   obtain ⟨p3,hp3,h⟩ := bindo h
   refine yr 21 [20] rfl (oL · sc3 rfl rfl (ldI_out hp3)) ?_
   try dsimp only [w0,w1,w2,w3]
   refine yf 22 [0] rfl (oM · rfl) ?_
   refine yf 23 [2] rfl (oM · rfl) ?_
   obtain ⟨p4,hp4,h⟩ := bindo h
   refine yr 24 [22,23] rfl (oX (s := y0) · tu76 sz3 rfl rfl hp4) ?_
   obtain ⟨p5,hp5,h⟩ := bindo h
   refine yr 25 [24] rfl (oL · sc3 rfl rfl (ldI_out hp5)) ?_
   try dsimp only [w0,w1,w2,w3]
   obtain ⟨p6,hp6,h⟩ := bindo h
   refine yr 26 [14,15] rfl (oX (s := y0) · tu76 sz3 rfl rfl hp6) ?_
   obtain ⟨p7,hp7,h⟩ := bindo h
   refine x_go (e_op (dst := none) (ts := [26,21]) rfl (by intro _ _ h; cases h) (by kernel_rfl) (fun _ ho => ok_store_s (v := (.int .i64 p3)) ho sz3 (.tmp rfl) rfl (.tmp rfl) rfl hp7)) rfl ?_
   obtain ⟨p8,hp8,h⟩ := bindo h
   refine yr 27 [16,17] rfl (oX (s := y0) · tu76 sz3 rfl rfl hp8) ?_
   obtain ⟨p9,hp9,h⟩ := bindo h
   refine x_go (e_op (dst := none) (ts := [27,25]) rfl (by intro _ _ h; cases h) (by kernel_rfl) (fun _ ho => ok_store_s (v := (.int .i64 p5)) ho sz3 (.tmp rfl) rfl (.tmp rfl) rfl hp9)) rfl ?_
   refine x_rest rfl ?_
   refine rE ?_
   try dsimp only [w0,w1,w2,w3]
   refine hr_inBlock (qR rfl rfl (qS 10 rfl (oM · rfl) (qS 11 rfl (oC · rfl rfl) (qS 12 rfl (oM · rfl) (qS 13 rfl (oC · rfl rfl) ?_)))))
   try dsimp only [w0,w1,w2,w3]
   refine qS 2 rfl (oA · rfl) (qS 3 rfl (oA · rfl) (rE ?_))
   try dsimp only [w0,w1,w2,w3]
   try dsimp only [w0,w1,w2,w3]
   exact ih h
  ·cases h
   exact q_cond_f rfl (.tmp rfl) (decide_eq_false hc1) (q_exit rfl rfl (q_end at_.at_ rfl (res0 rfl) ⟨rfl,rfl⟩))
def f (k : Nat) (x0 : Sl) (S : HS) : Option ((Unit) × HS) :=
 L0 k k x0 0 (w64 ((Sl.len x0 : Int) - 1)) S
theorem snd {k : Nat} {x0 : Sl} {S : HS}  {p : (Unit) × HS} (h : f k x0 S = some p) : HCall Tryz.prog base W0 β0 468 [(Sl.hv x0)] S (fun v S1 => v = (.tup []) ∧ S1 = p.2) := by
 unfold f at h
 refine HCall.of_run at_.at_ body ?_
 show HRun Tryz.prog base W0 β0 468 none [.code c0] ⟨[(Sl.hv x0),τ,τ,τ,τ,τ,τ,τ,τ,τ,τ,τ,τ,τ,τ,τ,τ,τ,τ,τ,τ,τ,τ,τ,τ,τ,τ,τ],[]⟩ S _
 refine qQ rfl (qR rfl rfl (qS 4 rfl (oM · rfl) (qS 5 rfl (ok_len_sl (q := Sl.a x0) (n := Sl.len x0) (z := Sl.cap x0) · rfl tu76 (.tmp rfl)) (qS 6 rfl (oC · rfl rfl) (qS 2 rfl (ok_assign · (.int _ _)) ?_)))))
 try dsimp only [w0,w1,w2,w3]
 refine qS 3 rfl (oA · rfl) (rE ?_)
 try dsimp only [w0,w1,w2,w3]
 refine q_block rfl (q_loop rfl ?_)
 try dsimp only [w0,w1,w2,w3]
 exact L0_snd  h
end
end slices_Reverse_int_int
namespace slices_rotateLeft_int
theorem at_ : FnAt Tryz.prog 424 Tryz.f424 := ⟨Tryz.func424,by kernel_rfl⟩
noncomputable def d0 := (Tryz.f424.body).getD .skip
noncomputable def r1 := kR (kA d0)
noncomputable def r3 := kR (kA (kB d0))
noncomputable def r4 := kR (kB (kB d0))
noncomputable def c0 : Code := .seq (.region 0 r1 false) (.seq (.region 1 r3 false) (.region 2 r4 false))
theorem body : Tryz.f424.body = some c0 := by kernel_rfl
section
variable {base : Nat} {W0 : Env} {β0 : Bt}
def f (k : Nat) (x0 : Sl) (x1 : Int) (S : HS) : Option ((Unit) × HS) :=
 (Option.bind (HS.cut S x0 0 x1 1) fun p1 =>
 (Option.bind (slices_Reverse_int_int.f k p1 S) fun p2 =>
 (Option.bind (HS.cut p2.2 x0 x1 (Sl.len x0 : Int) 1) fun p3 =>
 (Option.bind (slices_Reverse_int_int.f k p3 p2.2) fun p4 =>
 (Option.bind (slices_Reverse_int_int.f k x0 p4.2) fun p5 =>
 some ((),p5.2))))))
theorem snd {k : Nat} {x0 : Sl} {x1 : Int} {S : HS}  {p : (Unit) × HS} (h : f k x0 x1 S = some p) : HCall Tryz.prog base W0 β0 424 [(Sl.hv x0),(.int .i64 x1)] S (fun v S1 => v = (.tup []) ∧ S1 = p.2) := by
 unfold f at h
 refine HCall.of_run at_.at_ body ?_
 show HRun Tryz.prog base W0 β0 424 none [.code c0] ⟨[(Sl.hv x0),(.int .i64 x1),τ,τ,τ,τ,τ,τ,τ,τ,τ,τ,τ,τ],[]⟩ S _
 obtain ⟨p1,hp1,h⟩ := bindo h
 obtain ⟨p2,hp2,h⟩ := bindo h
 refine qQ rfl (qR rfl rfl (qS 4 rfl (oM · rfl) (qS 5 rfl (oM · rfl) (qS 6 rfl (ok_slice (kl := .i64) (kh := .i64) (s := x0) (l := 0) (h := x1) · tu76 si3 (.tmp rfl) (.inl ⟨rfl,rfl⟩) (.inr ⟨_,rfl,(.tmp rfl)⟩) hp1) (q_call (dst := some 7) rfl (.func _) (.cons (.tmp rfl) Evs.nil) (HInv.static slices_Reverse_int_int.at_ slices_Reverse_int_int.body (slices_Reverse_int_int.snd  hp2)) ?_)))))
 rintro _ _ ⟨rfl,rfl⟩
 refine rE ?_
 try dsimp only [w0,w1,w2,w3]
 obtain ⟨p3,hp3,h⟩ := bindo h
 obtain ⟨p4,hp4,h⟩ := bindo h
 refine qQ rfl (qR rfl rfl (qS 8 rfl (oM · rfl) (qS 9 rfl (oM · rfl) (qS 10 rfl (ok_slice (kl := .i64) (kh := .i64) (s := x0) (l := x1) (h := (Sl.len x0 : Int)) · tu76 si3 (.tmp rfl) (.inr ⟨_,rfl,(.tmp rfl)⟩) (.inl ⟨rfl,rfl⟩) hp3) (q_call (dst := some 11) rfl (.func _) (.cons (.tmp rfl) Evs.nil) (HInv.static slices_Reverse_int_int.at_ slices_Reverse_int_int.body (slices_Reverse_int_int.snd  hp4)) ?_)))))
 rintro _ _ ⟨rfl,rfl⟩
 refine rE ?_
 try dsimp only [w0,w1,w2,w3]
 obtain ⟨p5,hp5,h⟩ := bindo h
 refine qR rfl rfl (qS 12 rfl (oM · rfl) (q_call (dst := some 13) rfl (.func _) (.cons (.tmp rfl) Evs.nil) (HInv.static slices_Reverse_int_int.at_ slices_Reverse_int_int.body (slices_Reverse_int_int.snd  hp5)) ?_))
 rintro _ _ ⟨rfl,rfl⟩
 refine rE ?_
 try dsimp only [w0,w1,w2,w3]
 cases h
 exact q_end at_.at_ rfl (res0 rfl) ⟨rfl,rfl⟩
end
end slices_rotateLeft_int
namespace slices_rotateRight_int
theorem at_ : FnAt Tryz.prog 350 Tryz.f350 := ⟨Tryz.func350,by kernel_rfl⟩
noncomputable def d0 := (Tryz.f350.body).getD .skip
noncomputable def r0 := kR d0
noncomputable def c0 : Code := .region 0 r0 false
theorem body : Tryz.f350.body = some c0 := by kernel_rfl
section
variable {base : Nat} {W0 : Env} {β0 : Bt}
def f (k : Nat) (x0 : Sl) (x1 : Int) (S : HS) : Option ((Unit) × HS) :=
 (Option.bind (slices_rotateLeft_int.f k x0 (w64 ((Sl.len x0 : Int) - x1)) S) fun p1 =>
 some ((),p1.2))
theorem snd {k : Nat} {x0 : Sl} {x1 : Int} {S : HS}  {p : (Unit) × HS} (h : f k x0 x1 S = some p) : HCall Tryz.prog base W0 β0 350 [(Sl.hv x0),(.int .i64 x1)] S (fun v S1 => v = (.tup []) ∧ S1 = p.2) := by
 unfold f at h
 refine HCall.of_run at_.at_ body ?_
 show HRun Tryz.prog base W0 β0 350 none [.code c0] ⟨[(Sl.hv x0),(.int .i64 x1),τ,τ,τ,τ,τ,τ,τ,τ],[]⟩ S _
 refine qR rfl rfl (qS 4 rfl (oM · rfl) (qS 5 rfl (oM · rfl) (qS 6 rfl (ok_len_sl (q := Sl.a x0) (n := Sl.len x0) (z := Sl.cap x0) · rfl tu76 (.tmp rfl)) (qS 7 rfl (oM · rfl) ?_))))
 try dsimp only [w0,w1,w2,w3]
 obtain ⟨p1,hp1,h⟩ := bindo h
 refine qS 8 rfl (oB · rfl rfl rfl) (q_call (dst := some 9) rfl (.func _) (.cons (.tmp rfl) (.cons (.tmp rfl) Evs.nil)) (HInv.static slices_rotateLeft_int.at_ slices_rotateLeft_int.body (slices_rotateLeft_int.snd  hp1)) ?_)
 rintro _ _ ⟨rfl,rfl⟩
 refine rE ?_
 try dsimp only [w0,w1,w2,w3]
 cases h
 exact q_end at_.at_ rfl (res0 rfl) ⟨rfl,rfl⟩
end
end slices_rotateRight_int
end Go.Proofs.YtfningkbcfhheaaGreatDoor.X
namespace Go.Proofs.YtfningkbcfhheaaGreatDoor.X
open Go.Proofs.YtfningkbcfhheaaGreatDoor.HL
set_option linter.unusedVariables false
theorem all_fin {p : Int → Prop} (h : ∀ n : Fin 256,p (n.val : Int)) {i : Nat} (hi : i < 256) : p (i : Int) := h ⟨i,hi⟩
structure Fx (n : Nat) (S S' : HS) : Prop where
 le : S.next ≤ S'.next
 eq : ∀ id,id < n → S'.heap id = S.heap id
 mr : ∀ id,id < n → S'.mrk id = S.mrk id
theorem Fx.refl (n : Nat) (S : HS) : Fx n S S := ⟨Nat.le_refl _,fun _ _ => rfl,fun _ _ => rfl⟩
theorem Fx.trans {n : Nat} {A B C : HS} (h : Fx n A B) (k : Fx n B C) : Fx n A C := ⟨Nat.le_trans h.le k.le,fun i hi => (k.eq i hi).trans (h.eq i hi),fun i hi => (k.mr i hi).trans (h.mr i hi)⟩
theorem Fx.mono {n m : Nat} {A B : HS} (h : Fx n A B) (hm : m ≤ n) : Fx m A B := ⟨h.le,fun i hi => h.eq i (Nat.lt_of_lt_of_le hi hm),fun i hi => h.mr i (Nat.lt_of_lt_of_le hi hm)⟩
theorem Fx.newM {n : Nat} {S : HS} (h : n ≤ S.next) (o : HObj) (m : Nat) : Fx n S (S.newM o m) := ⟨Nat.le_succ _,fun i hi => by simp [HS.newM,show i ≠ S.next by omega],fun i hi => by simp [HS.newM,show i ≠ S.next by omega]⟩
theorem Fx.new {n : Nat} {S : HS} (h : n ≤ S.next) (o : HObj) : Fx n S (S.new o) := Fx.newM h o 0
theorem Fx.put {n id : Nat} {S : HS} (h : n ≤ id) (o : HObj) : Fx n S (S.put id o) := ⟨Nat.le_refl _,fun i hi => by simp [HS.put,show i ≠ id by omega],fun _ _ => rfl⟩
theorem Fx.ext {S S' : HS} (h : Fx S.next S S') : Ext S S' := ⟨h.eq,h.mr,h.le⟩
def hasB (row : List UInt8) (i : Int) : Bool := (valid_has.f row i).getD false
theorem has_eq (row : List UInt8) (i : Int) : valid_has.f row i = some (hasB row i) := rfl
def letB (i : Int) : Bool := (valid_letter.f i).getD false
theorem let_eq {i : Nat} (hi : i < 256) : valid_letter.f (i : Int) = some (letB i) := all_fin (p := fun i => valid_letter.f i = some (letB i)) (by decide +kernel) hi
structure KS (q : Nat) (row : List HV) (i : Nat) (v : Int) (B S : HS) : Prop where
 cell : S.heap q = .cells 256 [row.set i (.int .u16 v)] true
 old : ∀ id,id ≠ q → S.heap id = B.heap id
 nx : S.next = B.next
 mr : S.mrk = B.mrk
theorem KS.step {q i : Nat} {row : List HV} {v : Int} {B S : HS} (hi : i < 256) (hr : row.length = 256) (h : KS q row i v B S) (c : Int) :
  S.ldI .u16 (HA.fld (HA.cell0 q) (Int.toNat (i : Int))) = some v ∧ ∃ S',S.sets (HA.fld (HA.cell0 q) (Int.toNat (i : Int))) [.int .u16 c] = some S' ∧ KS q row i c B S' := by
 have hget : (row.set i (HV.int .u16 v))[i]? = some (.int .u16 v) := by rw [List.getElem?_set_self (by omega)]
 constructor
 ·simp only [Int.toNat_natCast]
  exact row_ldI (cell_row h.cell) rfl hget
 ·refine ⟨S.put q (.cells 256 [row.set i (.int .u16 c)] true),?_,⟨put_here _ _ _,fun id hid => (put_other _ hid).trans (h.old id hid),h.nx,h.mr⟩⟩
  simp only [Int.toNat_natCast,HA.fld]
  rw [sets_row h.cell rfl (by simp; omega)]
  congr 2
  simp only [List.set_cons_zero,List.cons.injEq,and_true,Nat.zero_add,List.length_singleton]
  congr 2
  apply List.ext_getElem?
  intro j
  rw [List.getElem?_append,List.getElem?_append]
  simp only [List.length_take,List.length_set,List.length_append,List.length_singleton,hr]
  by_cases h1 : j < i
  ·rw [if_pos (by omega),if_pos (by omega),List.getElem?_take,if_pos h1,List.getElem?_set_ne (by omega),List.getElem?_set_ne (by omega)]
  ·by_cases h2 : j = i
   ·subst h2
    rw [if_pos (by omega),if_neg (by omega),List.getElem?_set_self (by omega),show j - min j 256 = 0 by omega]
    rfl
   ·rw [if_neg (by omega),List.getElem?_drop,List.getElem?_set_ne (by omega),List.getElem?_set_ne (by omega)]
    congr 1; omega
theorem upd {R : Type} {q i : Nat} {row : List HV} {v : Int} {B S : HS} (hi : i < 256) (hr : row.length = 256) (h : KS q row i v B S) (c : Int) (b : Bool) (rest : HS → Option R) :
  ∃ S',(if b = true then
   (Option.bind (some (HA.cell0 q)) fun p9 =>
   (if 0 ≤ (i : Int) ∧ (i : Int) < 256 then
   (Option.bind (HS.ldI S .u16 (HA.fld p9 (Int.toNat i))) fun p11 =>
   (Option.bind (some (HA.cell0 q)) fun p12 =>
   (if 0 ≤ (i : Int) ∧ (i : Int) < 256 then
   (Option.bind (HS.sets S (HA.fld p12 (Int.toNat i)) [(.int .u16 (ior .u16 p11 c))]) fun p14 =>
   rest p14) else none))) else none)) else rest S) = rest S' ∧ KS q row i (if b then ior .u16 v c else v) B S' := by
 cases b with
 | false => exact ⟨S,by simp,by simpa using h⟩
 | true =>
  obtain ⟨h1,S',h2,h3⟩ := h.step hi hr (ior .u16 v c)
  refine ⟨S',?_,by simpa using h3⟩
  rw [if_pos rfl,Option.bind_some,if_pos ⟨by omega,by omega⟩,h1,Option.bind_some,Option.bind_some,if_pos ⟨by omega,by omega⟩,h2,Option.bind_some]
def kindOf (i : Int) : Int :=
 let dg := decide (i ≥ 48) && decide (i ≤ 57)
 let pl := decide (i ≥ 33) && decide (i ≤ 126)
 let v1 := if letB i || hasB [91,93,92,95,94,123,124,125,96] i then ior .u16 0 3 else 0
 let v2 := if dg || decide (i = 45) then ior .u16 v1 2 else v1
 let v3 := if !hasB [0,7,10,13,32,44,58] i then ior .u16 v2 4 else v2
 let v4 := if pl && !hasB [33,64,42,63,58] i then ior .u16 v3 8 else v3
 let v5 := if (letB i || dg) || hasB [46,45,58] i then ior .u16 v4 16 else v4
 let v6 := if pl && !decide (i = 44) then ior .u16 v5 32 else v5
 if !hasB [0,10,13] i then ior .u16 v6 64 else v6
section
variable {k : Nat} {rec0 : Option HA → Option HA → Int → HS → Option (List HV × HS)} {y0 : Option HA} {q i : Nat} {row : List HV} {v : Int} {B S : HS}
theorem j14 (hi : i < 256) (hr : row.length = 256) (h : KS q row i v B S) : ∃ S',valid_kinds.J14 k rec0 y0 (some (HA.cell0 q)) (i : Int) (i : Int) S = rec0 y0 (some (HA.cell0 q)) (w64 ((i : Int) + 1)) S' ∧ KS q row i (if !hasB [0,10,13] i then ior .u16 v 64 else v) B S' := by
 rw [valid_kinds.J14,has_eq,Option.bind_some]
 exact upd hi hr h 64 _ (fun S => valid_kinds.J15 k rec0 y0 (some (HA.cell0 q)) (i : Int) S)
theorem j12 (pl : Bool) (hi : i < 256) (hr : row.length = 256) (h : KS q row i v B S) : ∃ S',valid_kinds.J12 k rec0 y0 (some (HA.cell0 q)) (i : Int) pl (i : Int) S = valid_kinds.J14 k rec0 y0 (some (HA.cell0 q)) (i : Int) (i : Int) S' ∧ KS q row i (if pl && !decide ((i : Int) = 44) then ior .u16 v 32 else v) B S' := by
 have e : valid_kinds.J12 k rec0 y0 (some (HA.cell0 q)) (i : Int) pl (i : Int) S = valid_kinds.J13 k rec0 y0 (some (HA.cell0 q)) (i : Int) (i : Int) (pl && !decide ((i : Int) = 44)) S := by
  rw [valid_kinds.J12]; cases pl <;> simp
 rw [e,valid_kinds.J13]
 exact upd hi hr h 32 _ (fun S => valid_kinds.J14 k rec0 y0 (some (HA.cell0 q)) (i : Int) (i : Int) S)
theorem j9 (dg pl : Bool) (hi : i < 256) (hr : row.length = 256) (h : KS q row i v B S) : ∃ S',valid_kinds.J9 k rec0 y0 (some (HA.cell0 q)) (i : Int) dg pl (i : Int) S = valid_kinds.J12 k rec0 y0 (some (HA.cell0 q)) (i : Int) pl (i : Int) S' ∧ KS q row i (if (letB i || dg) || hasB [46,45,58] i then ior .u16 v 16 else v) B S' := by
 have e : valid_kinds.J9 k rec0 y0 (some (HA.cell0 q)) (i : Int) dg pl (i : Int) S = valid_kinds.J11 k rec0 y0 (some (HA.cell0 q)) (i : Int) pl (i : Int) ((letB i || dg) || hasB [46,45,58] i) S := by
  rw [valid_kinds.J9,let_eq hi,Option.bind_some]
  cases letB (i : Int) <;> cases dg <;> simp [valid_kinds.J10,has_eq]
 rw [e,valid_kinds.J11]
 exact upd hi hr h 16 _ (fun S => valid_kinds.J12 k rec0 y0 (some (HA.cell0 q)) (i : Int) pl (i : Int) S)
theorem j7 (dg pl : Bool) (hi : i < 256) (hr : row.length = 256) (h : KS q row i v B S) : ∃ S',valid_kinds.J7 k rec0 y0 (some (HA.cell0 q)) (i : Int) dg pl (i : Int) S = valid_kinds.J9 k rec0 y0 (some (HA.cell0 q)) (i : Int) dg pl (i : Int) S' ∧ KS q row i (if pl && !hasB [33,64,42,63,58] i then ior .u16 v 8 else v) B S' := by
 have e : valid_kinds.J7 k rec0 y0 (some (HA.cell0 q)) (i : Int) dg pl (i : Int) S = valid_kinds.J8 k rec0 y0 (some (HA.cell0 q)) (i : Int) dg pl (i : Int) (pl && !hasB [33,64,42,63,58] i) S := by
  rw [valid_kinds.J7]; cases pl <;> simp [has_eq]
 rw [e,valid_kinds.J8]
 exact upd hi hr h 8 _ (fun S => valid_kinds.J9 k rec0 y0 (some (HA.cell0 q)) (i : Int) dg pl (i : Int) S)
theorem j6 (dg pl : Bool) (hi : i < 256) (hr : row.length = 256) (h : KS q row i v B S) : ∃ S',valid_kinds.J6 k rec0 y0 (some (HA.cell0 q)) (i : Int) dg pl (i : Int) S = valid_kinds.J7 k rec0 y0 (some (HA.cell0 q)) (i : Int) dg pl (i : Int) S' ∧ KS q row i (if !hasB [0,7,10,13,32,44,58] i then ior .u16 v 4 else v) B S' := by
 rw [valid_kinds.J6,has_eq,Option.bind_some]
 exact upd hi hr h 4 _ (fun S => valid_kinds.J7 k rec0 y0 (some (HA.cell0 q)) (i : Int) dg pl (i : Int) S)
theorem j4 (dg pl : Bool) (hi : i < 256) (hr : row.length = 256) (h : KS q row i v B S) : ∃ S',valid_kinds.J4 k rec0 y0 (some (HA.cell0 q)) (i : Int) dg pl (i : Int) S = valid_kinds.J6 k rec0 y0 (some (HA.cell0 q)) (i : Int) dg pl (i : Int) S' ∧ KS q row i (if dg || decide ((i : Int) = 45) then ior .u16 v 2 else v) B S' := by
 have e : valid_kinds.J4 k rec0 y0 (some (HA.cell0 q)) (i : Int) dg pl (i : Int) S = valid_kinds.J5 k rec0 y0 (some (HA.cell0 q)) (i : Int) dg pl (i : Int) (dg || decide ((i : Int) = 45)) S := by
  rw [valid_kinds.J4]; cases dg <;> simp
 rw [e,valid_kinds.J5]
 exact upd hi hr h 2 _ (fun S => valid_kinds.J6 k rec0 y0 (some (HA.cell0 q)) (i : Int) dg pl (i : Int) S)
theorem j2 (dg pl : Bool) (hi : i < 256) (hr : row.length = 256) (h : KS q row i v B S) : ∃ S',valid_kinds.J2 k rec0 y0 (some (HA.cell0 q)) (i : Int) dg (i : Int) pl S = valid_kinds.J4 k rec0 y0 (some (HA.cell0 q)) (i : Int) dg pl (i : Int) S' ∧ KS q row i (if letB i || hasB [91,93,92,95,94,123,124,125,96] i then ior .u16 v 3 else v) B S' := by
 have e : valid_kinds.J2 k rec0 y0 (some (HA.cell0 q)) (i : Int) dg (i : Int) pl S = valid_kinds.J3 k rec0 y0 (some (HA.cell0 q)) (i : Int) dg pl (i : Int) (letB i || hasB [91,93,92,95,94,123,124,125,96] i) S := by
  rw [valid_kinds.J2,let_eq hi,Option.bind_some]
  cases letB (i : Int) <;> simp [has_eq]
 rw [e,valid_kinds.J3]
 exact upd hi hr h 3 _ (fun S => valid_kinds.J4 k rec0 y0 (some (HA.cell0 q)) (i : Int) dg pl (i : Int) S)
end
def kpart (i : Nat) : List HV := (List.range i).map (fun (j : Nat) => HV.int .u16 (kindOf (j : Int))) ++ List.replicate (256 - i) (.int .u16 0)
theorem kpart_len {i : Nat} (hi : i ≤ 256) : (kpart i).length = 256 := by simp [kpart]; omega
theorem kpart_zero {i : Nat} (hi : i < 256) : (kpart i).set i (.int .u16 0) = kpart i := by
 apply List.ext_getElem?
 intro j
 by_cases h : i = j
 ·subst h
  rw [List.getElem?_set_self (by rw [kpart_len (by omega)]; exact hi),kpart,List.getElem?_append_right (by simp)]
  simp [List.getElem?_replicate]; omega
 ·rw [List.getElem?_set_ne h]
theorem kpart_succ {i : Nat} (hi : i < 256) : (kpart i).set i (.int .u16 (kindOf i)) = kpart (i + 1) := by
 apply List.ext_getElem?
 intro j
 have hl := kpart_len (i := i) (by omega)
 by_cases h : i = j
 ·subst h
  rw [List.getElem?_set_self (by omega),kpart,List.getElem?_append_left (by simp)]
  simp
 ·rw [List.getElem?_set_ne h]
  by_cases h2 : j < i
  ·rw [kpart,kpart,List.getElem?_append_left (by simpa using h2),List.getElem?_append_left (by simp; omega)]
   simp [h2,show j < i + 1 by omega]
  ·rw [kpart,kpart,List.getElem?_append_right (by simp; omega),List.getElem?_append_right (by simp; omega)]
   simp only [List.length_map,List.length_range,List.getElem?_replicate]
   by_cases h3 : j < 256
   ·rw [if_pos (by omega),if_pos (by omega)]
   ·rw [if_neg (by omega),if_neg (by omega)]
theorem kinds_loop {k q0 q : Nat} {B : HS} (hne : q0 ≠ q) (h0 : B.heap q0 = .cells 256 [List.replicate 256 (.int .u16 0)] true) : ∀ (n i : Nat) (S : HS),256 - i < n → i ≤ 256 → S.heap q = .cells 256 [kpart i] true → (∀ id,id ≠ q → S.heap id = B.heap id) → S.next = B.next → S.mrk = B.mrk →
  ∃ S',valid_kinds.L0 k n (some (HA.cell0 q0)) (some (HA.cell0 q)) (i : Int) S = some (kpart 256,S') ∧ (∀ id,id ≠ q → id ≠ q0 → S'.heap id = B.heap id) ∧ S'.next = B.next ∧ S'.mrk = B.mrk := by
 intro n
 induction n with
 | zero => intro i S h; omega
 | succ n ih =>
  intro i S hn hi hq ho hx hmk
  unfold valid_kinds.L0
  by_cases hlt : i < 256
  ·rw [if_pos (by omega)]
   have hS : KS q (kpart i) i 0 B S := ⟨by rw [kpart_zero hlt]; exact hq,ho,hx,hmk⟩
   have hl := kpart_len hi
   have e : (if (i : Int) ≥ 48 then valid_kinds.J1 k (valid_kinds.L0 k n) (some (HA.cell0 q0)) (some (HA.cell0 q)) (i : Int) (i : Int) (decide ((i : Int) ≤ 57)) S else valid_kinds.J1 k (valid_kinds.L0 k n) (some (HA.cell0 q0)) (some (HA.cell0 q)) (i : Int) (i : Int) false S) =
     valid_kinds.J2 k (valid_kinds.L0 k n) (some (HA.cell0 q0)) (some (HA.cell0 q)) (i : Int) (decide ((i : Int) ≥ 48) && decide ((i : Int) ≤ 57)) (i : Int) (decide ((i : Int) ≥ 33) && decide ((i : Int) ≤ 126)) S := by
    by_cases h1 : (i : Int) ≥ 48 <;> by_cases h2 : (i : Int) ≥ 33 <;> simp [h1,h2,valid_kinds.J1]
   rw [e]
   obtain ⟨S1,e1,k1⟩ := j2 (k := k) (rec0 := valid_kinds.L0 k n) (y0 := some (HA.cell0 q0)) (decide ((i : Int) ≥ 48) && decide ((i : Int) ≤ 57)) (decide ((i : Int) ≥ 33) && decide ((i : Int) ≤ 126)) hlt hl hS
   obtain ⟨S2,e2,k2⟩ := j4 (k := k) (rec0 := valid_kinds.L0 k n) (y0 := some (HA.cell0 q0)) (decide ((i : Int) ≥ 48) && decide ((i : Int) ≤ 57)) (decide ((i : Int) ≥ 33) && decide ((i : Int) ≤ 126)) hlt hl k1
   obtain ⟨S3,e3,k3⟩ := j6 (k := k) (rec0 := valid_kinds.L0 k n) (y0 := some (HA.cell0 q0)) (decide ((i : Int) ≥ 48) && decide ((i : Int) ≤ 57)) (decide ((i : Int) ≥ 33) && decide ((i : Int) ≤ 126)) hlt hl k2
   obtain ⟨S4,e4,k4⟩ := j7 (k := k) (rec0 := valid_kinds.L0 k n) (y0 := some (HA.cell0 q0)) (decide ((i : Int) ≥ 48) && decide ((i : Int) ≤ 57)) (decide ((i : Int) ≥ 33) && decide ((i : Int) ≤ 126)) hlt hl k3
   obtain ⟨S5,e5,k5⟩ := j9 (k := k) (rec0 := valid_kinds.L0 k n) (y0 := some (HA.cell0 q0)) (decide ((i : Int) ≥ 48) && decide ((i : Int) ≤ 57)) (decide ((i : Int) ≥ 33) && decide ((i : Int) ≤ 126)) hlt hl k4
   obtain ⟨S6,e6,k6⟩ := j12 (k := k) (rec0 := valid_kinds.L0 k n) (y0 := some (HA.cell0 q0)) (decide ((i : Int) ≥ 33) && decide ((i : Int) ≤ 126)) hlt hl k5
   obtain ⟨S7,e7,k7⟩ := j14 (k := k) (rec0 := valid_kinds.L0 k n) (y0 := some (HA.cell0 q0)) hlt hl k6
   rw [e1,e2,e3,e4,e5,e6,e7,w64_id (by omega) (by omega),show ((i : Int) + 1) = ((i + 1 : Nat) : Int) by simp]
   refine ih (i + 1) S7 (by omega) (by omega) ?_ k7.old k7.nx k7.mr
   rw [← kpart_succ hlt]
   exact k7.cell
  ·obtain rfl : i = 256 := by omega
   have hl : (kpart 256).length = 256 := kpart_len (Nat.le_refl _)
   have hg : S.gets (HA.cell0 q) 256 = some (kpart 256) := by
    simp only [HS.gets,HS.row,hq]
    simp [hl,List.take_of_length_le]
   have hf : List.all (kpart 256) HV.flat = true := by
    simp [kpart,HV.flat]
   have hq0 : S.heap q0 = .cells 256 [List.replicate 256 (.int .u16 0)] true := by rw [ho q0 hne]; exact h0
   have hs : S.sets (HA.cell0 q0) (kpart 256) = some (S.put q0 (.cells 256 [kpart 256] true)) := by
    rw [show HA.cell0 q0 = (⟨q0,0,0⟩ : HA) from rfl,sets_row hq0 rfl (by rw [hl,List.length_replicate]; exact Nat.le_refl _),List.drop_eq_nil_of_le (by rw [hl,List.length_replicate]; exact Nat.le_refl _),List.take_zero,List.nil_append,List.append_nil,List.set_cons_zero]
   have hg2 : (S.put q0 (.cells 256 [kpart 256] true)).gets (HA.cell0 q0) 256 = some (kpart 256) := by
    simp only [HS.gets,HS.row,put_here]
    simp [hl,List.take_of_length_le]
   rw [if_neg (by omega),Option.bind_some,hg,Option.bind_some,Option.bind_some,if_pos ⟨hl,hf⟩,hs,Option.bind_some,Option.bind_some,hg2,Option.bind_some]
   exact ⟨_,rfl,fun id g1 g2 => by rw [put_other _ g2]; exact ho id g1,hx,hmk⟩
theorem kinds_spec {k m : Nat} {S : HS} (hk : 257 ≤ k) (hm : m ≤ S.next) : ∃ S',valid_kinds.f k S = some (kpart 256,S') ∧ Fx m S S' := by
 unfold valid_kinds.f
 simp only [letv,new_next]
 obtain ⟨S',e,h1,h2,h3⟩ := kinds_loop (k := k) (q0 := S.next) (q := S.next + 1) (B := (S.new (.cells 256 [List.replicate 256 (.int .u16 0)] true)).new (.cells 256 [List.replicate 256 (.int .u16 0)] true)) (by omega) (by rw [new_old _ (by rw [new_next]; omega)]; exact new_here _ _) k 0 _ (by omega) (by omega) (by
  rw [show kpart 0 = List.replicate 256 (.int .u16 0) from rfl]
  exact new_here (S.new (.cells 256 [List.replicate 256 (.int .u16 0)] true)) _) (fun _ _ => rfl) rfl rfl
 refine ⟨S',e,⟨by rw [h2]; simp only [new_next]; omega,fun id hid => ?_,fun id hid => ?_⟩⟩
 ·rw [h1 id (by omega) (by omega),new_old _ (by rw [new_next]; omega),new_old _ (by omega)]
 ·rw [h3]; exact ((Fx.new (n := m) hm _).trans (Fx.new (by rw [new_next]; omega) _)).mr id hid
def isOf (of : Int) (b : UInt8) : Bool := !decide (iand .u16 (kindOf (b.toNat : Int)) of = 0)
theorem kpart_get {j : Nat} (hj : j < 256) : (kpart 256)[j]? = some (.int .u16 (kindOf (j : Int))) := by
 rw [kpart,List.getElem?_append_left (by simpa using hj)]
 simp [hj]
theorem all_loop {k q : Nat} {x : List UInt8} {of : Int} (hx : x.length ≤ 100000) {S : HS} (hS : S.heap q = .cells 256 [kpart 256] true) : ∀ (n i : Nat),x.length - i < n → i ≤ x.length →
  valid_all.L1 k n x of (some (HA.cell0 q)) (x.length : Int) (i : Int) S = some ((x.drop i).all (isOf of),S) := by
 intro n
 induction n with
 | zero => intro i h; omega
 | succ n ih =>
  intro i h hi
  unfold valid_all.L1
  by_cases hlt : i < x.length
  ·have hb := x[i].toNat_lt
   have hr : S.ldI .u16 (HA.fld (HA.cell0 q) (Int.toNat ((x[i]).toNat : Int))) = some (kindOf ((x[i]).toNat : Int)) := by
    rw [Int.toNat_natCast]
    exact row_ldI (cell_row hS) rfl (kpart_get (by omega))
   rw [if_pos (by omega),sat_lt hlt,Option.bind_some,Option.bind_some,if_pos ⟨by omega,by omega⟩,hr,Option.bind_some,List.drop_eq_getElem_cons hlt,List.all_cons]
   by_cases h0 : iand .u16 (kindOf ((x[i]).toNat : Int)) of = 0
   ·rw [if_pos h0]; simp [isOf,h0]
   ·rw [if_neg h0,w64_id (by omega) (by omega),show ((i : Int) + 1) = ((i + 1 : Nat) : Int) by simp,ih (i + 1) (by omega) (by omega)]
    simp [isOf,h0]
  ·rw [if_neg (by omega),List.drop_eq_nil_of_le (by omega)]; rfl
theorem all_spec {k m : Nat} {x : List UInt8} {of least most : Int} {S : HS} (hx : x.length ≤ 100000) (hk : 257 ≤ k) (hk2 : x.length < k) (hm : m ≤ S.next) :
  ∃ S',valid_all.f k x least most of S = some (decide (least ≤ x.length ∧ (x.length : Int) ≤ most) && x.all (isOf of),S') ∧ Fx m S S' := by
 have hcore : ∃ S',valid_all.J0 k x of false S = some (x.all (isOf of),S') ∧ Fx m S S' := by
  obtain ⟨S1,e1,f1⟩ := kinds_spec (k := k) (m := m) (S := S) hk hm
  have hl : (kpart 256).length = 256 := kpart_len (Nat.le_refl _)
  have hf : List.all (kpart 256) HV.flat = true := by simp [kpart,HV.flat]
  rw [valid_all.J0,if_neg (by simp),e1,Option.bind_some,letv,if_pos ⟨hl,hf⟩,show HA.cell0 S1.next = (⟨S1.next,0,0⟩ : HA) from rfl,
   sets_row (new_here S1 _) rfl (by rw [hl,List.length_replicate]; exact Nat.le_refl _),List.drop_eq_nil_of_le (by rw [hl,List.length_replicate]; exact Nat.le_refl _),List.take_zero,List.nil_append,List.append_nil,List.set_cons_zero,Option.bind_some]
  have := all_loop (k := k) (q := S1.next) (x := x) (of := of) hx (S := (S1.new (.cells 256 [List.replicate 256 (.int .u16 0)] true)).put S1.next (.cells 256 [kpart 256] true)) (put_here _ _ _) k 0 (by omega) (by omega)
  exact ⟨_,this,f1.trans ((Fx.new (Nat.le_trans hm f1.le) _).trans (Fx.put (Nat.le_trans hm f1.le) _))⟩
 have hfalse : valid_all.J0 k x of true S = some (false,S) := by rw [valid_all.J0,if_pos rfl]
 unfold valid_all.f
 by_cases h1 : (x.length : Int) < least
 ·rw [if_pos h1,hfalse]
  exact ⟨S,by simp; omega,Fx.refl _ _⟩
 ·rw [if_neg h1]
  by_cases h2 : (x.length : Int) > most
  ·rw [show decide ((x.length : Int) > most) = true by simpa using h2,hfalse]
   exact ⟨S,by simp; omega,Fx.refl _ _⟩
  ·rw [show decide ((x.length : Int) > most) = false by simpa using h2]
   obtain ⟨S',e,f⟩ := hcore
   exact ⟨S',by rw [e,show decide (least ≤ (x.length : Int) ∧ (x.length : Int) ≤ most) = true by simp; omega]; rfl,f⟩
def BldAt (S : HS) (b : Nat) (txt : List UInt8) : Prop :=
 ∃ p sl,S.heap b = .cells 2 [[.ptr p,Sl.hv sl]] true ∧ (p = none ∨ p = some (HA.cell0 b)) ∧ S.mrk b = 162 ∧ b < S.next ∧
  ((sl = Sl.nil ∧ txt = []) ∨ ∃ d,sl = ⟨some (d,0),txt.length,none⟩ ∧ b < d ∧ d < S.next ∧ S.heap d = .cells 1 (bytesRows txt) true ∧ S.mrk d = 7 ∧ txt ≠ [])
theorem ptrEq_self (a : HA) : pEq (some a) (some a) = some true := by simp [pEq]
theorem copyCheck_spec {S : HS} {b : Nat} {txt : List UInt8} (h : BldAt S b txt) : ∃ S',strings_Builder_copyCheck.f (some (HA.cell0 b)) S = some ((),S') ∧ BldAt S' b txt ∧ S'.next = S.next ∧ Fx b S S' := by
 obtain ⟨p,sl,h1,h2,h3,h4,h5⟩ := h
 have e1 : S.ldP (HA.fld (HA.cell0 b) 0) = some p := row_ldP (cell_row h1) rfl rfl
 unfold strings_Builder_copyCheck.f
 simp only [Option.bind_some,e1]
 rcases h2 with rfl | rfl
 ·have e2 : S.spot (some (HA.cell0 b)) = true := by simp [HS.spot,HA.cell0,h1]
  have e3 : S.spotT (some (HA.cell0 b)) 160 2 = true := by simp [HS.spotT,HA.cell0,h1,h3]
  have e4 : S.sets (HA.fld (HA.cell0 b) 0) [.ptr (some (HA.cell0 b))] = some (S.put b (.cells 2 [[.ptr (some (HA.cell0 b)),Sl.hv sl]] true)) := by
   simp [HS.sets,HA.fld,HA.cell0,h1]
  simp only [Option.isNone_none,if_true,e2,e3,e4,Option.bind_some,strings_Builder_copyCheck.J0]
  refine ⟨_,rfl,⟨some (HA.cell0 b),sl,put_here _ _ _,.inr rfl,h3,h4,?_⟩,rfl,Fx.put (Nat.le_refl _) _⟩
  rcases h5 with h5 | ⟨d,g1,g2,g3,g4,g5,g6⟩
  ·exact .inl h5
  ·exact .inr ⟨d,g1,g2,g3,by rw [put_other _ (by omega)]; exact g4,g5,g6⟩
 ·simp only [Option.isNone_some,ptrEq_self,Option.bind_some,strings_Builder_copyCheck.J0]
  exact ⟨S,by simp,⟨_,sl,h1,.inr rfl,h3,h4,h5⟩,rfl,Fx.refl _ _⟩
theorem writeByte_spec {S : HS} {b : Nat} {txt : List UInt8} (h : BldAt S b txt) (c : UInt8) (hl : txt.length < 1000000) : ∃ S',strings_Builder_WriteByte.f (some (HA.cell0 b)) (c.toNat : Int) S = some (HV.nilIf,S') ∧ BldAt S' b (txt ++ [c]) ∧ Fx b S S' := by
 obtain ⟨S1,e1,h1,n1,f1⟩ := copyCheck_spec h
 obtain ⟨p,sl,g1,g2,g3,g4,g5⟩ := h1
 unfold strings_Builder_WriteByte.f
 have e2 : S1.ldSl (HA.fld (HA.cell0 b) 1) = some sl := row_ldSl (cell_row g1) rfl rfl
 simp only [e1,e2,Option.bind_some,letv]
 have f2 : Fx b S1 (S1.lit [[.int .u8 (c.toNat : Int)]] 1).2 := Fx.new (by omega) _
 have e3 : (S1.lit [[.int .u8 (c.toNat : Int)]] 1).2.rows (S1.lit [[.int .u8 (c.toNat : Int)]] 1).1 1 = some [[.int .u8 (c.toNat : Int)]] := (Vec.lit (n := 0) _ (Nat.zero_le _)).rows
 rw [e3,Option.bind_some]
 simp only [HS.lit]
 generalize hS2 : S1.new (.cells 1 [[HV.int .u8 (c.toNat : Int)]] true) = S2
 have hb2 : S2.heap b = .cells 2 [[.ptr p,Sl.hv sl]] true := by rw [← hS2,new_old _ g4]; exact g1
 have hn2 : S2.next = S1.next + 1 := by rw [← hS2]; rfl
 have hm2 : ∀ i,i < S1.next → S2.mrk i = S1.mrk i := fun i hi => by rw [← hS2]; simp [HS.new,HS.newM,show i ≠ S1.next by omega]
 have fr2 : Fx b S1 S2 := by rw [← hS2]; exact Fx.new (by omega) _
 rcases g5 with ⟨rfl,rfl⟩ | ⟨d,rfl,k2,k3,k4,k5,k6⟩
 ·have e4 : S2.appT Sl.nil [[.int .u8 (c.toNat : Int)]] 1 5 = some (⟨some (S2.next,0),1,none⟩,S2.newM (.cells 1 [[.int .u8 (c.toNat : Int)]] true) 7) := by
   simp [HS.appT,Sl.nil]
  rw [e4,Option.bind_some]
  have e5 : (S2.newM (.cells 1 [[.int .u8 (c.toNat : Int)]] true) 7).sets (HA.fld (HA.cell0 b) 1) [Sl.hv ⟨some (S2.next,0),1,none⟩] = some ((S2.newM (.cells 1 [[.int .u8 (c.toNat : Int)]] true) 7).put b (.cells 2 [[.ptr p,Sl.hv ⟨some (S2.next,0),1,none⟩]] true)) := by
   have : (S2.newM (.cells 1 [[.int .u8 (c.toNat : Int)]] true) 7).heap b = .cells 2 [[.ptr p,Sl.hv Sl.nil]] true := by rw [new_oldM _ _ (by omega)]; exact hb2
   simp [HS.sets,HA.fld,HA.cell0,this]
  rw [e5,Option.bind_some]
  refine ⟨_,rfl,⟨p,_,put_here _ _ _,g2,?_,?_,.inr ⟨S2.next,rfl,by omega,by simp [HS.put,HS.newM],?_,?_,by simp⟩⟩,f1.trans (fr2.trans ((Fx.newM (by omega) _ _).trans (Fx.put (Nat.le_refl _) _)))⟩
  ·simp only [HS.put,HS.newM]; rw [if_neg (by omega),hm2 b g4]; exact g3
  ·simp [HS.put,HS.newM]; omega
  ·rw [put_other _ (by omega),new_hereM]; rfl
  ·simp [HS.put,HS.newM]
 ·have hd2 : S2.heap d = .cells 1 (bytesRows txt) true := by rw [← hS2,new_old _ k3]; exact k4
  have e4 : S2.appT ⟨some (d,0),txt.length,none⟩ [[.int .u8 (c.toNat : Int)]] 1 5 = some (⟨some (S2.next,0),(txt ++ [c]).length,none⟩,(S2.put d .dead).newM (.cells 1 (bytesRows (txt ++ [c])) true) 7) := by
   simp only [HS.appT,hd2,bytesRows_len]
   rw [if_neg (by simp),if_pos (by simp; omega),if_pos trivial,if_pos trivial,if_neg (by simp),if_pos (by simp),if_pos ⟨by rw [hm2 d k3]; exact k5,trivial⟩]
   simp [bytesRows]
  rw [e4,Option.bind_some]
  generalize hS3 : (S2.put d .dead).newM (.cells 1 (bytesRows (txt ++ [c])) true) 7 = S3
  have hb3 : S3.heap b = .cells 2 [[.ptr p,Sl.hv ⟨some (d,0),txt.length,none⟩]] true := by rw [← hS3,new_oldM _ _ (by show b < S2.next; omega),put_other _ (by omega)]; exact hb2
  have e5 : S3.sets (HA.fld (HA.cell0 b) 1) [Sl.hv ⟨some (S2.next,0),(txt ++ [c]).length,none⟩] = some (S3.put b (.cells 2 [[.ptr p,Sl.hv ⟨some (S2.next,0),(txt ++ [c]).length,none⟩]] true)) := by
   simp [HS.sets,HA.fld,HA.cell0,hb3]
  rw [e5,Option.bind_some]
  have fr3 : Fx b S2 S3 := by rw [← hS3]; exact (Fx.put (by omega) _).trans (Fx.newM (by show b ≤ S2.next; omega) _ _)
  refine ⟨_,rfl,⟨p,_,put_here _ _ _,g2,?_,?_,.inr ⟨S2.next,rfl,by omega,?_,?_,?_,by simp⟩⟩,f1.trans (fr2.trans (fr3.trans (Fx.put (Nat.le_refl _) _)))⟩
  ·rw [← hS3]; simp only [HS.put,HS.newM,show b ≠ S2.next by omega,if_false]; exact (hm2 b g4).trans g3
  ·rw [← hS3]; simp [HS.put,HS.newM]; omega
  ·rw [← hS3]; simp [HS.put,HS.newM]
  ·rw [put_other _ (by omega),← hS3]; exact new_hereM _ _ _
  ·rw [← hS3]; simp [HS.put,HS.newM]
theorem len_spec {S : HS} {b : Nat} {txt : List UInt8} (h : BldAt S b txt) : strings_Builder_Len.f (some (HA.cell0 b)) S = some ((txt.length : Int),S) := by
 obtain ⟨p,sl,g1,g2,g3,g4,g5⟩ := h
 have e2 : S.ldSl (HA.fld (HA.cell0 b) 1) = some sl := row_ldSl (cell_row g1) rfl rfl
 unfold strings_Builder_Len.f
 simp only [e2,Option.bind_some]
 rcases g5 with ⟨rfl,rfl⟩ | ⟨d,rfl,_⟩ <;> rfl
theorem string_spec {S : HS} {b : Nat} {txt : List UInt8} (h : BldAt S b txt) (hl : txt.length < 1000000) : ∃ S',strings_Builder_String.f (some (HA.cell0 b)) S = some (txt,S') ∧ Fx b S S' := by
 obtain ⟨p,sl,g1,g2,g3,g4,g5⟩ := h
 have e2 : S.ldSl (HA.fld (HA.cell0 b) 1) = some sl := row_ldSl (cell_row g1) rfl rfl
 unfold strings_Builder_String.f
 simp only [e2,Option.bind_some]
 rcases g5 with ⟨rfl,rfl⟩ | ⟨d,rfl,k2,k3,k4,k5,k6⟩
 ·exact ⟨S,rfl,Fx.refl _ _⟩
 ·have h0 : txt.length ≠ 0 := fun e => k6 (List.length_eq_zero_iff.1 e)
  ·refine ⟨S.put d (.cells 1 (bytesRows txt) false),?_,Fx.put (by omega) _⟩
   have e3 : Sl.data ⟨some (d,0),txt.length,none⟩ = some (some ⟨d,0,0⟩) := by simp [Sl.data]; exact k6
   rw [e3,Option.bind_some]
   have e4 : S.ustr (some ⟨d,0,0⟩) (txt.length : Int) 5 = some (txt,S.put d (.cells 1 (bytesRows txt) false)) := by
    simp only [HS.ustr,k4]
    rw [if_neg (by omega),if_pos ⟨by trivial,by omega,by omega,by simp [bytesRows_len],k5⟩]
    have : (bytesRows txt).take txt.length = bytesRows txt := List.take_of_length_le (by simp [bytesRows_len])
    simp [this,bytesOf_rows]
   rw [e4]; rfl
end Go.Proofs.YtfningkbcfhheaaGreatDoor.X
