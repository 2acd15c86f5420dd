/- strings.Trim at cutsets of ASCII bytes, by the kit's contract, laid at this program; as an over of the evaluator. What the evaluator is told of this program's functions. -/
import Derived.Test.YtfningkbcfhheaaGreatDoorProg
import Derived.Test.YtfningkbcfhheaaGreatDoorPart11
import Derived.Shelf.Strings.SlTrimAscii
import Derived.Test.YtfningkbcfhheaaGreatDoorPart13
import Derived.Test.YtfningkbcfhheaaGreatDoorWcX2
set_option linter.unusedVariables false
set_option linter.unusedSimpArgs false
namespace Go.Proofs.YtfningkbcfhheaaGreatDoor.X
open Go.Proofs.YtfningkbcfhheaaGreatDoor.HL Go.RowKit
set_option linter.unusedVariables false
set_option maxRecDepth 100000
noncomputable section
def ren : Go.Shelf.Ren := ⟨(fun | 119 => 274 | 120 => 273 | 137 => 101 | 151 => 207 | 152 => 211 | 160 => 82 | 197 => 142 | 217 => 163 | 224 => 271 | 225 => 270 | 227 => 148 | 228 => 206 | 231 => 146 | 232 => 147 | 233 => 149 | 234 => 150 | 235 => 151 | 236 => 152 | 260 => 204 | 266 => 213 | 271 => 208 | n => n),(fun | 0 => 0 | 3 => 3 | 4 => 4 | 5 => 5 | 9 => 9 | 21 => 21 | 46 => 183 | 105 => 228 | 116 => 234 | 117 => 235 | 119 => 327 | 124 => 238 | 138 => 329 | 139 => 330 | n => n),(fun | 3 => 1 | 4 => 2 | n => n)⟩
theorem lays160 : Go.Proofs.Lays.n160 Tryz.prog ren :=
 { mixed := by kernel_rfl,f119 := Tryz.func274.trans (congrArg some (by kernel_rfl)),f120 := Tryz.func273.trans (congrArg some (by kernel_rfl)),f137 := Tryz.func101.trans (congrArg some (by kernel_rfl)),f151 := Tryz.func207.trans (congrArg some (by kernel_rfl)),f152 := Tryz.func211.trans (congrArg some (by kernel_rfl)),f160 := Tryz.func82.trans (congrArg some (by kernel_rfl)),f197 := Tryz.func142.trans (congrArg some (by kernel_rfl)),f217 := Tryz.func163.trans (congrArg some (by kernel_rfl)),f224 := Tryz.func271.trans (congrArg some (by kernel_rfl)),f225 := Tryz.func270.trans (congrArg some (by kernel_rfl)),f227 := Tryz.func148.trans (congrArg some (by kernel_rfl)),f228 := Tryz.func206.trans (congrArg some (by kernel_rfl)),f231 := Tryz.func146.trans (congrArg some (by kernel_rfl)),f232 := Tryz.func147.trans (congrArg some (by kernel_rfl)),f233 := Tryz.func149.trans (congrArg some (by kernel_rfl)),f234 := Tryz.func150.trans (congrArg some (by kernel_rfl)),f235 := Tryz.func151.trans (congrArg some (by kernel_rfl)),f236 := Tryz.func152.trans (congrArg some (by kernel_rfl)),f260 := Tryz.func204.trans (congrArg some (by kernel_rfl)),f266 := Tryz.func213.trans (congrArg some (by kernel_rfl)),f271 := Tryz.func208.trans (congrArg some (by kernel_rfl)),t0 := Tryz.underlying0,a0 := Tryz.isAgg0,z0 := Tryz.sizeOf0,v0 := Tryz.zeroValue0,t3 := Tryz.underlying3,a3 := Tryz.isAgg3,z3 := Tryz.sizeOf3,v3 := Tryz.zeroValue3,t4 := Tryz.underlying4,a4 := Tryz.isAgg4,z4 := Tryz.sizeOf4,v4 := Tryz.zeroValue4,t5 := Tryz.underlying5,a5 := Tryz.isAgg5,z5 := Tryz.sizeOf5,v5 := Tryz.zeroValue5,t9 := Tryz.underlying9,a9 := Tryz.isAgg9,z9 := Tryz.sizeOf9,v9 := Tryz.zeroValue9,t21 := Tryz.underlying21,a21 := Tryz.isAgg21,z21 := Tryz.sizeOf21,v21 := Tryz.zeroValue21,t46 := Tryz.underlying183,a46 := Tryz.isAgg183,z46 := Tryz.sizeOf183,v46 := Tryz.zeroValue183,t105 := Tryz.underlying228,a105 := Tryz.isAgg228,z105 := Tryz.sizeOf228,v105 := Tryz.zeroValue228,t116 := Tryz.underlying234,a116 := Tryz.isAgg234,z116 := Tryz.sizeOf234,t117 := Tryz.underlying235,a117 := Tryz.isAgg235,z117 := Tryz.sizeOf235,v117 := Tryz.zeroValue235,t119 := Tryz.underlying327,a119 := Tryz.isAgg327,z119 := Tryz.sizeOf327,t124 := Tryz.underlying238,a124 := Tryz.isAgg238,z124 := Tryz.sizeOf238,v124 := Tryz.zeroValue238,t138 := Tryz.underlying329,a138 := Tryz.isAgg329,z138 := Tryz.sizeOf329,v138 := Tryz.zeroValue329,t139 := Tryz.underlying330,a139 := Tryz.isAgg330,z139 := Tryz.sizeOf330,v139 := Tryz.zeroValue330,g3 := by kernel_rfl,g4 := by kernel_rfl }
def triK {γ : Type} (cs s : List UInt8) (k : List UInt8 → Option γ) : Option γ := frcS (Lib.trimS s cs) k
def asciiB (cs : List UInt8) : Bool := cs.all fun b => Nat.ble b.toNat 127
def trimC (args : List HV) (c : CS) : Option Res :=
 match args with
 | [.str s,.str cs] => cond (asciiB cs && Nat.ble s.length 1000000 && Nat.ble cs.length 1000000) (triK cs s fun r => some (.str r,c)) none
 | _ => none
theorem trimC_ok {base : Nat} {W0 : Env} {β0 : Bt} {args : List HV} {c : CS} {out : Res} (h : trimC args c = some out) : HCall Tryz.prog base W0 β0 82 args c.hs (fun v S1 => v = out.1 ∧ S1 = out.2.hs) := by
 unfold trimC at h
 split at h
 ·rename_i s cs
  cases hc : asciiB cs && Nat.ble s.length 1000000 && Nat.ble cs.length 1000000 with
  | false => rw [hc] at h; cases h
  | true =>
   rw [hc,cond_true,triK,frcS_eq] at h
   cases h
   simp only [Bool.and_eq_true] at hc
   have h1 := Nat.le_of_ble_eq_true hc.1.2
   have h2 := Nat.le_of_ble_eq_true hc.2
   refine HCall.of_calls fun β w args' hr ha => ?_
   obtain ⟨u1,u2,rfl,r1,r2⟩ := ha.two
   cases r1; cases r2
   refine ⟨_,.str _,Any.strings_Trim_laid lays160 (by kernel_rfl) ⟨s.toArray⟩ ⟨cs.toArray⟩ w (by simpa [size_mk] using (by omega)) (by simpa [size_mk] using (by omega)) (fun j b hb => ?_)⟩
   have hm := List.mem_of_getElem? hb
   have := List.all_eq_true.1 hc.1.1 b hm
   have := Nat.le_of_ble_eq_true this
   omega
 ·cases h
end
end Go.Proofs.YtfningkbcfhheaaGreatDoor.X
namespace Go.Proofs.YtfningkbcfhheaaGreatDoor.X
open Go.Proofs.YtfningkbcfhheaaGreatDoor.HL
set_option linter.unusedVariables false
noncomputable section
def Lr : List (Nat × OvT) := [(86,allC),(42,clnC),(82,trimC),(57,tornC),(167,insC 2),(214,delC 2),(254,insC 1),(355,delC 3),(446,insC 2),(450,insC 2),(451,insC 3),(470,delC 1),(471,delC 1),(502,insC 1)]
theorem Lr_ok : OvAll Tryz.prog Lr := (.cons (fun _ _ _ _ _ _ h => allC_ok h) (.cons (fun _ _ _ _ _ _ h => clnC_ok h) (.cons (fun _ _ _ _ _ _ h => trimC_ok h) (.cons (fun _ _ _ _ _ _ h => tornC_ok h) (.cons (insC_ov fun _ _ _ _ _ _ _ _ h => slices_Insert_timer_item_int_timer_item_int_w.snd h) (.cons (delC_ov fun _ _ _ _ _ _ _ _ h => slices_Delete_timer_item_int_timer_item_int_w.snd h) (.cons (insC_ov fun _ _ _ _ _ _ _ _ h => slices_Insert_int_int_w.snd h) (.cons (delC_ov fun _ _ _ _ _ _ _ _ h => slices_Delete_api_Member_api_Member_w.snd h) (.cons (insC_ov fun _ _ _ _ _ _ _ _ h => slices_Insert_book_entry_int_book_entry_int_w.snd h) (.cons (insC_ov fun _ _ _ _ _ _ _ _ h => slices_Insert_book_entry_room_Room_book_entry_room_Room_w.snd h) (.cons (insC_ov fun _ _ _ _ _ _ _ _ h => slices_Insert_api_Member_api_Member_w.snd h) (.cons (delC_ov fun _ _ _ _ _ _ _ _ h => slices_Delete_string_string_w.snd h) (.cons (delC_ov fun _ _ _ _ _ _ _ _ h => slices_Delete_int_int_w.snd h) (.cons (insC_ov fun _ _ _ _ _ _ _ _ h => slices_Insert_string_string_w.snd h) .nil))))))))))))))
theorem ext201 : ExtAt Tryz.prog 201 Extern.BytealgCount.count := ⟨Tryz.f201,Tryz.func201,by kernel_rfl,by kernel_rfl,by kernel_rfl,by kernel_rfl⟩
def KL (L : List (Nat × OvT)) : Kn := ⟨[213],[205],[201],ovF L,1000000,17⟩
theorem KL_ok {L : List (Nat × OvT)} (h : OvAll Tryz.prog L) (base : Nat) (W : Env) : KnOk Tryz.prog base W (KL L) where
 idx := fun g hg => by rw [List.mem_singleton.1 hg]; exact ext213
 noe := fun g hg => by rw [List.mem_singleton.1 hg]; exact ext205
 cnt := fun g hg => by rw [List.mem_singleton.1 hg]; exact ext201
 over := fun g r hr β0 args c out ho => ovF_ok h g r hr base W β0 args c out ho
def Kr : Kn := KL Lr
theorem Kr_ok (base : Nat) (W : Env) : KnOk Tryz.prog base W Kr := KL_ok Lr_ok base W
end
end Go.Proofs.YtfningkbcfhheaaGreatDoor.X
