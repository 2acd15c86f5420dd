/- Functions of the program, each as a Lean function over the layer HL: a call answers what the Lean function answers, where it answers. -/
import Derived.Test.YtpomdkjabebmcaaDoorProg
import Derived.Test.YtpomdkjabebmcaaDoorCtLay
namespace Go.Proofs.YtpomdkjabebmcaaDoor.X
open Go.Proofs.YtpomdkjabebmcaaDoor.HL
set_option linter.unusedVariables false
set_option linter.unusedSimpArgs false
set_option maxRecDepth 20000
set_option maxHeartbeats 4000000
theorem tu9 : Tryd.prog.underlying 9 = some .string := by kernel_rfl
theorem tu5 : Tryd.prog.underlying 5 = some (.int .u8) := by kernel_rfl
theorem tu21 : Tryd.prog.underlying 21 = some (.int .i32) := by kernel_rfl
theorem el33 : ElemAt Tryd.prog 33 9 1 [(.str [])] := elemAt_mk (zv := (.string ⟨#[]⟩)) (by_ := 16) (by kernel_rfl) (by kernel_rfl) (by decide) (fun β => VRels.cons (.str []) (VRels.nil β)) rfl (by decide) rfl
theorem tu33 : Tryd.prog.underlying 33 = some (.slice 9) := by kernel_rfl
theorem sz9 : ∃ q, Tryd.prog.info? 9 = some q ∧ q.size = 1 := size_mk' (by kernel_rfl)
theorem ext43 : ExtAt Tryd.prog 43 Extern.BytealgIndexByte.indexByte := ⟨Tryd.f43, Tryd.func43, by kernel_rfl, by kernel_rfl, by kernel_rfl, by kernel_rfl⟩
theorem tu68 : Tryd.prog.underlying 68 = some (.int .u32) := by kernel_rfl
theorem si9 : SizeIs Tryd.prog 9 1 16 := sizeIs_mk (by kernel_rfl)
theorem zi3 : (Tryd.prog.info? 3).map (·.zero) = some (some (.int .i64 0)) := by kernel_rfl
theorem zr3 : ∀ β, VRels β [(.int .i64 0)] (Value.cells (.int .i64 0)) := fun β => VRels.cons (.int _ _) (VRels.nil β)
theorem sc9 : Scalar Tryd.prog 9 := ⟨.string, by kernel_rfl, trivial⟩
theorem sz3 : ∃ q, Tryd.prog.info? 3 = some q ∧ q.size = 1 := size_mk' (by kernel_rfl)
theorem sc3 : Scalar Tryd.prog 3 := ⟨(.int .i64), by kernel_rfl, trivial⟩
theorem zi33 : (Tryd.prog.info? 33).map (·.zero) = some (some (.slice none 0 0)) := by kernel_rfl
theorem zr33 : ∀ β, VRels β [(Sl.hv Sl.nil)] (Value.cells (.slice none 0 0)) := fun β => VRels.cons (.slNil none) (VRels.nil β)
theorem sc33 : Scalar Tryd.prog 33 := ⟨(.slice 9), by kernel_rfl, trivial⟩
theorem sz33 : ∃ q, Tryd.prog.info? 33 = some q ∧ q.size = 1 := size_mk' (by kernel_rfl)
theorem zi38 : (Tryd.prog.info? 38).map (·.zero) = some (some (.agg #[(.string ⟨#[]⟩), (.string ⟨#[]⟩), (.string ⟨#[]⟩)])) := by kernel_rfl
theorem zr38 : ∀ β, VRels β [(.str []), (.str []), (.str [])] (Value.cells (.agg #[(.string ⟨#[]⟩), (.string ⟨#[]⟩), (.string ⟨#[]⟩)])) := fun β => VRels.cons (.str []) (VRels.cons (.str []) (VRels.cons (.str []) (VRels.nil β)))
theorem ar38 : ArrAt Tryd.prog 38 9 3 [(.str []), (.str []), (.str [])] := arrAt_mk (zv := (.agg #[(.string ⟨#[]⟩), (.string ⟨#[]⟩), (.string ⟨#[]⟩)])) (by kernel_rfl) sz9 (by kernel_rfl) (fun β => VRels.cons (.str []) (VRels.cons (.str []) (VRels.cons (.str []) (VRels.nil β))))
theorem sz38 : ∃ q, Tryd.prog.info? 38 = some q ∧ q.size = 3 := size_mk' (by kernel_rfl)
theorem ia38 : IsAgg Tryd.prog 38 3 := isAgg_mk2 (by kernel_rfl) (by kernel_rfl)
theorem ta38 : Tryd.prog.underlying 38 = some (.array 3 9) := by kernel_rfl
theorem zi4 : (Tryd.prog.info? 4).map (·.zero) = some (some (.bool false)) := by kernel_rfl
theorem zr4 : ∀ β, VRels β [(.bool false)] (Value.cells (.bool false)) := fun β => VRels.cons (.bool _) (VRels.nil β)
theorem sz4 : ∃ q, Tryd.prog.info? 4 = some q ∧ q.size = 1 := size_mk' (by kernel_rfl)
theorem sc4 : Scalar Tryd.prog 4 := ⟨.bool, by kernel_rfl, trivial⟩
theorem tu30 : Tryd.prog.underlying 30 = some (.func #[40] #[] false) := by kernel_rfl
theorem tu4 : Tryd.prog.underlying 4 = some .bool := by kernel_rfl
namespace unicode_utf8_RuneCountInString
theorem at_ : FnAt Tryd.prog 32 Tryd.f32 := ⟨Tryd.func32, by kernel_rfl⟩
noncomputable def d0 := (Tryd.f32.body).getD .skip
noncomputable def r1 := kR (kA d0)
noncomputable def r4 := kR (kA (kA (kB d0)))
noncomputable def d7 := kA (kA (kB (kA (kB d0))))
noncomputable def r8 := kR (kA d7)
noncomputable def r14 := kR (kA (kB (kB d7)))
noncomputable def r16 := kR (kA (kB (kB d0)))
noncomputable def c0 : Code := .seq (.region 0 r1 false) (.seq (.seq (.region 1 r4 false) (.block 0 (.loop (.seq (.region 2 r8 false) (.seq (.cond (.tmp 6) .skip (.exit 0)) (.block 1 (.region 3 r14 false))))))) (.seq (.region 4 r16 false) .ret))
theorem body : Tryd.f32.body = some c0 := by kernel_rfl
section
variable {base : Nat} {W0 : World} {β0 : Bt}
def f (k : Nat) (x0 : (List UInt8)) : Option (Int) :=
  none
theorem snd {k : Nat} {x0 : (List UInt8)} {S : HS}  {p : Int} (h : f k x0 = some p) : HCall Tryd.prog base W0 β0 32 [(.str x0)] S (fun v S1 => v = (.int .i64 p) ∧ S1 = S) := by
  unfold f at h
  refine HCall.of_run at_.at_ body ?_
  show HRun Tryd.prog base W0 β0 32 none [.code c0] ⟨[(.str x0), τ, τ, τ, τ, τ, τ, τ, τ, τ], []⟩ S _
  refine q_seq rfl ?_
  refine q_region rfl rfl ?_
  refine qS 2 rfl (ok_assign · (.int _ _)) ?_
  refine hr_region_end ?_
  try dsimp only [w0, w1, w2, w3]
  refine q_seq rfl ?_
  refine q_seq rfl ?_
  refine q_region rfl rfl ?_
  refine qS 3 rfl (ok_move · (.tmp rfl)) ?_
  cases h
end
end unicode_utf8_RuneCountInString
namespace unicode_utf8_decodeRuneInStringSlow
theorem at_ : FnAt Tryd.prog 38 Tryd.f38 := ⟨Tryd.func38, by kernel_rfl⟩
noncomputable def d0 := (Tryd.f38.body).getD .skip
noncomputable def r1 := kR (kA d0)
noncomputable def r3 := kR (kA (kB d0))
noncomputable def r6 := kR (kA (kA (kB (kB d0))))
noncomputable def r9 := kR (kA (kA (kB (kA (kB (kB d0))))))
noncomputable def d12 := kB (kB (kB d0))
noncomputable def r13 := kR (kA d12)
noncomputable def r15 := kR (kA (kB d12))
noncomputable def r18 := kR (kA (kA (kB (kB d12))))
noncomputable def d20 := kA (kB (kA (kB (kB d12))))
noncomputable def r21 := kR (kA d20)
noncomputable def r23 := kR (kA (kB d20))
noncomputable def d26 := kB (kB (kB d12))
noncomputable def r27 := kR (kA d26)
noncomputable def r29 := kR (kA (kB d26))
noncomputable def r32 := kR (kA (kA (kB (kB d26))))
noncomputable def r35 := kR (kA (kA (kB (kA (kB (kB d26))))))
noncomputable def d38 := kB (kB (kB d26))
noncomputable def r39 := kR (kA d38)
noncomputable def r42 := kR (kA (kA (kB d38)))
noncomputable def r45 := kR (kA (kA (kB (kA (kB d38)))))
noncomputable def r50 := kR (kA (kA (kB (kB d38))))
noncomputable def r53 := kR (kA (kA (kB (kA (kB (kB d38))))))
noncomputable def d56 := kB (kB (kB d38))
noncomputable def r57 := kR (kA d56)
noncomputable def r60 := kR (kA (kA (kB d56)))
noncomputable def r63 := kR (kA (kA (kB (kA (kB d56)))))
noncomputable def r68 := kR (kA (kA (kB (kB d56))))
noncomputable def r71 := kR (kA (kA (kB (kA (kB (kB d56))))))
noncomputable def d74 := kB (kB (kB d56))
noncomputable def r75 := kR (kA d74)
noncomputable def r78 := kR (kA (kA (kB d74)))
noncomputable def r81 := kR (kA (kA (kB (kA (kB d74)))))
noncomputable def r85 := kR (kA (kB (kB d74)))
noncomputable def c0 : Code := .seq (.region 0 r1 false) (.seq (.region 1 r3 false) (.seq (.seq (.region 2 r6 false) (.cond (.tmp 16) (.seq (.region 3 r9 false) .ret) .skip)) (.seq (.region 4 r13 false) (.seq (.region 5 r15 false) (.seq (.seq (.region 6 r18 false) (.cond (.tmp 23) (.seq (.region 7 r21 false) (.seq (.region 8 r23 false) .ret)) .skip)) (.seq (.region 9 r27 false) (.seq (.region 10 r29 false) (.seq (.seq (.region 11 r32 false) (.cond (.tmp 45) (.seq (.region 12 r35 false) .ret) .skip)) (.seq (.region 13 r39 false) (.seq (.seq (.region 14 r42 false) (.cond (.tmp 57) (.seq (.region 15 r45 false) .ret) .skip)) (.seq (.seq (.region 16 r50 false) (.cond (.tmp 59) (.seq (.region 17 r53 false) .ret) .skip)) (.seq (.region 18 r57 false) (.seq (.seq (.region 19 r60 false) (.cond (.tmp 75) (.seq (.region 20 r63 false) .ret) .skip)) (.seq (.seq (.region 21 r68 false) (.cond (.tmp 77) (.seq (.region 22 r71 false) .ret) .skip)) (.seq (.region 23 r75 false) (.seq (.seq (.region 24 r78 false) (.cond (.tmp 98) (.seq (.region 25 r81 false) .ret) .skip)) (.seq (.region 26 r85 false) .ret)))))))))))))))))
theorem body : Tryd.f38.body = some c0 := by kernel_rfl
section
variable {base : Nat} {W0 : World} {β0 : Bt}
def f (x0 : (List UInt8)) (S : HS) : Option ((Int × Int) × HS) :=
  (if (List.length x0 : Int) < 1 then
  some ((65533, 0), S) else
  (Option.bind (sat x0 0) fun p2 =>
  none))
theorem snd {x0 : (List UInt8)} {S : HS}  {p : (Int × Int) × HS} (h : f x0 S = some p) : HCall Tryd.prog base W0 β0 38 [(.str x0)] S (fun v S1 => v = (.tup [(.int .i32 p.1.1), (.int .i64 p.1.2)]) ∧ S1 = p.2) := by
  unfold f at h
  refine HCall.of_run at_.at_ body ?_
  show HRun Tryd.prog base W0 β0 38 none [.code c0] ⟨[(.str x0), τ, τ, τ, τ, τ, τ, τ, τ, τ, τ, τ, τ, τ, τ, τ, τ, τ, τ, τ, τ, τ, τ, τ, τ, τ, τ, τ, τ, τ, τ, τ, τ, τ, τ, τ, τ, τ, τ, τ, τ, τ, τ, τ, τ, τ, τ, τ, τ, τ, τ, τ, τ, τ, τ, τ, τ, τ, τ, τ, τ, τ, τ, τ, τ, τ, τ, τ, τ, τ, τ, τ, τ, τ, τ, τ, τ, τ, τ, τ, τ, τ, τ, τ, τ, τ, τ, τ, τ, τ, τ, τ, τ, τ, τ, τ, τ, τ, τ, τ, τ, τ, τ, τ, τ, τ, τ, τ, τ, τ, τ, τ, τ, τ, τ, τ, τ], []⟩ S _
  refine q_seq rfl ?_
  refine q_region rfl rfl ?_
  refine qS 2 rfl (ok_assign · (.int _ _)) ?_
  refine qS 3 rfl (ok_assign · (.int _ _)) ?_
  refine hr_region_end ?_
  try dsimp only [w0, w1, w2, w3]
  refine q_seq rfl ?_
  refine q_region rfl rfl ?_
  refine qS 13 rfl (ok_move · (.tmp rfl)) ?_
  refine qS 14 rfl (ok_len_str · rfl tu9 (.tmp rfl)) ?_
  refine qS 4 rfl (ok_assign · (.tmp rfl)) ?_
  refine hr_region_end ?_
  try dsimp only [w0, w1, w2, w3]
  refine q_seq rfl ?_
  refine q_seq rfl ?_
  refine q_region rfl rfl ?_
  refine qS 15 rfl (ok_move · (.tmp rfl)) ?_
  refine qS 16 rfl (ok_ibin · (.tmp rfl) (.int _ _) rfl) ?_
  refine hr_region_end ?_
  try dsimp only [w0, w1, w2, w3]
  rcases ifc h with ⟨hc1, h⟩ | ⟨hc1, h⟩
  · refine q_cond_t rfl (.tmp rfl) (decide_eq_true hc1) ?_
    refine q_seq rfl ?_
    refine q_region rfl rfl ?_
    refine qS 2 rfl (ok_assign · (.int _ _)) ?_
    refine qS 3 rfl (ok_assign · (.int _ _)) ?_
    refine hr_region_end ?_
    try dsimp only [w0, w1, w2, w3]
    cases h
    exact q_ret rfl at_.at_ rfl (res2 rfl rfl rfl) ⟨rfl, rfl⟩
  · refine q_cond_f rfl (.tmp rfl) (decide_eq_false hc1) ?_
    refine q_skipc rfl ?_
    refine q_seq rfl ?_
    refine q_region rfl rfl ?_
    refine qS 17 rfl (ok_move · (.tmp rfl)) ?_
    obtain ⟨p2, hp2, h⟩ := bindo h
    refine qS 18 rfl (ok_index_s · tu9 (.tmp rfl) (.int _ _) hp2) ?_
    refine qS 5 rfl (ok_assign · (.tmp rfl)) ?_
    refine hr_region_end ?_
    try dsimp only [w0, w1, w2, w3]
    refine q_seq rfl ?_
    refine q_region rfl rfl ?_
    refine qS 19 rfl (ok_move · (.tmp rfl)) ?_
    cases h
end
end unicode_utf8_decodeRuneInStringSlow
namespace unicode_utf8_DecodeRuneInString
theorem at_ : FnAt Tryd.prog 33 Tryd.f33 := ⟨Tryd.func33, by kernel_rfl⟩
noncomputable def d0 := (Tryd.f33.body).getD .skip
noncomputable def r1 := kR (kA d0)
noncomputable def r4 := kR (kA (kA (kB d0)))
noncomputable def r7 := kR (kA (kA (kB (kA (kB d0)))))
noncomputable def r9 := kR (kB (kB (kA (kB d0))))
noncomputable def c10 : Code := .ret
noncomputable def c5 : Code := .cond (.tmp 10) (.seq (.region 2 r7 false) .ret) (.region 3 r9 false)
noncomputable def c0 : Code := .seq (.region 0 r1 false) (.seq (.seq (.region 1 r4 false) c5) c10)
theorem body : Tryd.f33.body = some c0 := by kernel_rfl
section
variable {base : Nat} {W0 : World} {β0 : Bt}
def J0  (y0 : (List UInt8)) (y10 : Bool) (S : HS) : Option ((Int × Int) × HS) :=
  (if y10 = true then
  (Option.bind (sat y0 0) fun p4 =>
  some (((IntKind.wrap .i32 (UInt8.toNat p4 : Int)), 1), S)) else
  (Option.bind (unicode_utf8_decodeRuneInStringSlow.f y0 S) fun p5 =>
  some ((p5.1.1, p5.1.2), p5.2)))
theorem J0_snd   {y0 : (List UInt8)} {y10 : Bool} {S : HS} {p : (Int × Int) × HS} {g1 g2 g3 g4 g5 g6 g7 g8 g9 g11 g12 g13 g14 g15 g16 g17 g18 : HV} (h : J0  y0 y10 S = some p) : HRun Tryd.prog base W0 β0 33 none [.code c5, .code c10] ⟨[(.str y0), g1, g2, g3, g4, g5, g6, g7, g8, g9, (.bool y10), g11, g12, g13, g14, g15, g16, g17, g18], []⟩ S (fun v S1 => v = (.tup [(.int .i32 p.1.1), (.int .i64 p.1.2)]) ∧ S1 = p.2) := by
  unfold J0 at h
  rcases ifc h with ⟨hc3, h⟩ | ⟨hc3, h⟩
  · refine q_cond_t rfl (.tmp rfl) hc3 ?_
    refine q_seq rfl ?_
    refine q_region rfl rfl ?_
    refine qS 11 rfl (ok_move · (.tmp rfl)) ?_
    obtain ⟨p4, hp4, h⟩ := bindo h
    refine qS 12 rfl (ok_index_s · tu9 (.tmp rfl) (.int _ _) hp4) ?_
    refine qS 13 rfl (ok_conv_int · tu5 tu21 (.tmp rfl)) ?_
    refine qS 2 rfl (ok_assign · (.tmp rfl)) ?_
    try dsimp only [w0, w1, w2, w3]
    refine qS 3 rfl (ok_assign · (.int _ _)) ?_
    refine hr_region_end ?_
    try dsimp only [w0, w1, w2, w3]
    cases h
    exact q_ret rfl at_.at_ rfl (res2 rfl rfl rfl) ⟨rfl, rfl⟩
  · refine q_cond_f rfl (.tmp rfl) (bfalse hc3) ?_
    refine q_region rfl rfl ?_
    refine qS 15 rfl (ok_move · (.tmp rfl)) ?_
    obtain ⟨p5, hp5, h⟩ := bindo h
    refine q_call (dst := some 16) rfl (.func _) (.cons (.tmp rfl) Evs.nil) (HInv.static unicode_utf8_decodeRuneInStringSlow.at_ unicode_utf8_decodeRuneInStringSlow.body (unicode_utf8_decodeRuneInStringSlow.snd  hp5)) ?_
    rintro _ _ ⟨rfl, rfl⟩
    refine qS 14 rfl (ok_move · (.tmp rfl)) ?_
    refine qS 17 rfl (ok_extract · (.tmp rfl) rfl) ?_
    try dsimp only [w0, w1, w2, w3]
    refine qS 18 rfl (ok_extract · (.tmp rfl) rfl) ?_
    refine qS 2 rfl (ok_assign · (.tmp rfl)) ?_
    refine qS 3 rfl (ok_assign · (.tmp rfl)) ?_
    refine hr_region_end ?_
    try dsimp only [w0, w1, w2, w3]
    cases h
    exact q_ret rfl at_.at_ rfl (res2 rfl rfl rfl) ⟨rfl, rfl⟩
def f (x0 : (List UInt8)) (S : HS) : Option ((Int × Int) × HS) :=
  (if (!decide (x0 = ([] : List UInt8))) = true then
  (Option.bind (sat x0 0) fun p2 =>
  J0 x0 (decide ((UInt8.toNat p2 : Int) < 128)) S) else
  J0 x0 false S)
theorem snd {x0 : (List UInt8)} {S : HS}  {p : (Int × Int) × HS} (h : f x0 S = some p) : HCall Tryd.prog base W0 β0 33 [(.str x0)] S (fun v S1 => v = (.tup [(.int .i32 p.1.1), (.int .i64 p.1.2)]) ∧ S1 = p.2) := by
  unfold f at h
  refine HCall.of_run at_.at_ body ?_
  show HRun Tryd.prog base W0 β0 33 none [.code c0] ⟨[(.str x0), τ, τ, τ, τ, τ, τ, τ, τ, τ, τ, τ, τ, τ, τ, τ, τ, τ, τ], []⟩ S _
  refine q_seq rfl ?_
  refine q_region rfl rfl ?_
  refine qS 2 rfl (ok_assign · (.int _ _)) ?_
  refine qS 3 rfl (ok_assign · (.int _ _)) ?_
  refine hr_region_end ?_
  try dsimp only [w0, w1, w2, w3]
  refine q_seq rfl ?_
  refine q_seq rfl ?_
  refine q_region rfl rfl ?_
  refine qS 4 rfl (ok_move · (.tmp rfl)) ?_
  refine qS 5 rfl (ok_sbin · (.tmp rfl) (.str _) rfl) ?_
  refine qS 6 rfl (ok_move · (.tmp rfl)) ?_
  rcases ifc h with ⟨hc1, h⟩ | ⟨hc1, h⟩
  · refine qG 6 7 rfl hc1 (ok_move · (.tmp rfl)) ?_
    try dsimp only [w0, w1, w2, w3]
    obtain ⟨p2, hp2, h⟩ := bindo h
    refine qG 6 8 rfl hc1 (ok_index_s · tu9 (.tmp rfl) (.int _ _) hp2) ?_
    refine qG 6 9 rfl hc1 (ok_ibin · (.tmp rfl) (.int _ _) rfl) ?_
    refine qS 10 rfl (ok_pick_tt · (.tmp rfl) hc1 (.tmp rfl)) ?_
    refine hr_region_end ?_
    try dsimp only [w0, w1, w2, w3]
    try dsimp only [w0, w1, w2, w3]
    exact J0_snd  h
  · refine q_skip (dst := some 7) (t := 6) rfl rfl rfl (bfalse hc1) ?_
    try dsimp only [w0, w1, w2, w3]
    refine q_skip (dst := some 8) (t := 6) rfl rfl rfl (bfalse hc1) ?_
    refine q_skip (dst := some 9) (t := 6) rfl rfl rfl (bfalse hc1) ?_
    refine qS 10 rfl (ok_pick_ff · (.tmp rfl) (bfalse hc1) (.bool _)) ?_
    refine hr_region_end ?_
    try dsimp only [w0, w1, w2, w3]
    try dsimp only [w0, w1, w2, w3]
    exact J0_snd  h
end
end unicode_utf8_DecodeRuneInString
namespace strings_explode
theorem at_ : FnAt Tryd.prog 26 Tryd.f26 := ⟨Tryd.func26, by kernel_rfl⟩
noncomputable def d0 := (Tryd.f26.body).getD .skip
noncomputable def r1 := kR (kA d0)
noncomputable def r3 := kR (kA (kB d0))
noncomputable def r6 := kR (kA (kA (kB (kB d0))))
noncomputable def r8 := kR (kA (kB (kA (kB (kB d0)))))
noncomputable def d10 := kB (kB (kB d0))
noncomputable def r11 := kR (kA d10)
noncomputable def r14 := kR (kA (kA (kB d10)))
noncomputable def d15 := kB (kA (kB d10))
noncomputable def r19 := kR (kA (kA (kA (kA d15))))
noncomputable def d23 := kB (kA (kA d15))
noncomputable def r26 := kR (kA (kA (kA d23)))
noncomputable def r28 := kR (kA (kB (kA (kA d23))))
noncomputable def r29 := kR (kB (kB (kA (kA d23))))
noncomputable def r30 := kR (kB d23)
noncomputable def r33 := kR (kA (kA (kB (kB d10))))
noncomputable def r35 := kR (kA (kB (kA (kB (kB d10)))))
noncomputable def r38 := kR (kA (kB (kB (kB d10))))
noncomputable def c37 : Code := .seq (.region 13 r38 false) .ret
noncomputable def c31 : Code := .seq (.seq (.region 11 r33 false) (.cond (.tmp 43) (.region 12 r35 false) .skip)) c37
noncomputable def c17 : Code := .seq (.seq (.region 6 r19 false) (.cond (.tmp 25) .skip (.exit 0))) (.seq (.block 1 (.seq (.region 8 r26 false) (.seq (.region 9 r28 false) (.region 10 r29 false)))) (.region 7 r30 false))
noncomputable def c10 : Code := .seq (.region 4 r11 false) (.seq (.seq (.region 5 r14 false) (.block 0 (.loop c17))) c31)
noncomputable def c7 : Code := .cond (.tmp 18) (.region 3 r8 false) .skip
noncomputable def c0 : Code := .seq (.region 0 r1 false) (.seq (.region 1 r3 false) (.seq (.seq (.region 2 r6 false) c7) c10))
theorem body : Tryd.f26.body = some c0 := by kernel_rfl
section
variable {base : Nat} {W0 : World} {β0 : Bt}
def J3 (k : Nat) (y6 : Sl) (S : HS) : Option ((Sl) × HS) :=
  some (y6, S)
theorem J3_snd {k : Nat}  {y6 : Sl} {S : HS} {p : (Sl) × HS} {g0 g1 g2 g3 g4 g5 g7 g8 g9 g10 g11 g12 g13 g14 g15 g16 g17 g18 g19 g20 g21 g22 g23 g24 g25 g26 g27 g28 g29 g30 g31 g32 g33 g34 g35 g36 g37 g38 g39 g40 g41 g42 g43 g44 g45 g46 g47 g48 g49 : HV} (h : J3 k y6 S = some p) : HRun Tryd.prog base W0 β0 26 none [.code c37] ⟨[g0, g1, g2, g3, g4, g5, (Sl.hv y6), g7, g8, g9, g10, g11, g12, g13, g14, g15, g16, g17, g18, g19, g20, g21, g22, g23, g24, g25, g26, g27, g28, g29, g30, g31, g32, g33, g34, g35, g36, g37, g38, g39, g40, g41, g42, g43, g44, g45, g46, g47, g48, g49], []⟩ S (fun v S1 => v = (Sl.hv p.1) ∧ S1 = p.2) := by
  unfold J3 at h
  refine q_seq rfl ?_
  refine q_region rfl rfl ?_
  refine qS 49 rfl (ok_move · (.tmp rfl)) ?_
  refine qS 4 rfl (ok_assign · (.tmp rfl)) ?_
  refine hr_region_end ?_
  try dsimp only [w0, w1, w2, w3]
  cases h
  exact q_ret rfl at_.at_ rfl (res1 rfl rfl) ⟨rfl, rfl⟩
def L2 (k : Nat) : Nat → (List UInt8) → Int → Sl → Int → HS → Option ((Sl) × HS)
  | 0, _, _, _, _, _ => none
  | n + 1, y0, y1, y6, y7, S =>
    (if y7 < (w64 (y1 - 1)) then
    (Option.bind (unicode_utf8_DecodeRuneInString.f y0 S) fun p6 =>
    (if 0 ≤ (0 : Int) ∧ (0 : Int) ≤ p6.1.2 ∧ (p6.1.2 : Int) ≤ (List.length y0 : Int) then
    (Option.bind (HS.idx p6.2 y6 y7 1) fun p8 =>
    (Option.bind (HS.sets p6.2 p8 [(.str (ssub y0 0 p6.1.2))]) fun p9 =>
    (if 0 ≤ (p6.1.2 : Int) ∧ (p6.1.2 : Int) ≤ (List.length y0 : Int) ∧ ((List.length y0 : Int) : Int) ≤ (List.length y0 : Int) then
    (L2 k n) (ssub y0 p6.1.2 (List.length y0 : Int)) y1 y6 (w64 (y7 + 1)) p9 else none))) else none)) else
    (if y1 > 0 then
    (Option.bind (HS.idx S y6 (w64 (y1 - 1)) 1) fun p12 =>
    (Option.bind (HS.sets S p12 [(.str y0)]) fun p13 =>
    J3 k y6 p13)) else
    J3 k y6 S))
theorem L2_snd {k : Nat}  : ∀ {n : Nat} ⦃y0 : (List UInt8)⦄ ⦃y1 : Int⦄ ⦃y6 : Sl⦄ ⦃y7 : Int⦄ ⦃S : HS⦄ ⦃p : (Sl) × HS⦄ ⦃g2 g3 g4 g5 g8 g9 g10 g11 g12 g13 g14 g15 g16 g17 g18 g19 g20 g21 g22 g23 g24 g25 g26 g27 g28 g29 g30 g31 g32 g33 g34 g35 g36 g37 g38 g39 g40 g41 g42 g43 g44 g45 g46 g47 g48 g49 : HV⦄, L2 k n y0 y1 y6 y7 S = some p → HRun Tryd.prog base W0 β0 26 none [.inLoop c17, .inBlock 0, .code c31] ⟨[(.str y0), (.int .i64 y1), g2, g3, g4, g5, (Sl.hv y6), (.int .i64 y7), g8, g9, g10, g11, g12, g13, g14, g15, g16, g17, g18, g19, g20, g21, g22, g23, g24, g25, g26, g27, g28, g29, g30, g31, g32, g33, g34, g35, g36, g37, g38, g39, g40, g41, g42, g43, g44, g45, g46, g47, g48, g49], []⟩ S (fun v S1 => v = (Sl.hv p.1) ∧ S1 = p.2) := by
  intro n
  induction n with
  | zero => intro _ _ _ _ _ _ _ _ _ _ _ _ _ _ _ _ _ _ _ _ _ _ _ _ _ _ _ _ _ _ _ _ _ _ _ _ _ _ _ _ _ _ _ _ _ _ _ _ _ _ _ _ h; cases h
  | succ n ih =>
    intro y0 y1 y6 y7 S p g2 g3 g4 g5 g8 g9 g10 g11 g12 g13 g14 g15 g16 g17 g18 g19 g20 g21 g22 g23 g24 g25 g26 g27 g28 g29 g30 g31 g32 g33 g34 g35 g36 g37 g38 g39 g40 g41 g42 g43 g44 g45 g46 g47 g48 g49 h
    simp only [L2] at h
    refine hr_inLoop ?_
    refine q_seq rfl ?_
    refine q_seq rfl ?_
    refine q_region rfl rfl ?_
    refine qS 22 rfl (ok_move · (.tmp rfl)) ?_
    refine qS 23 rfl (ok_move · (.tmp rfl)) ?_
    refine qS 24 rfl (ok_ibin · (.tmp rfl) (.int _ _) rfl) ?_
    refine qS 25 rfl (ok_ibin · (.tmp rfl) (.tmp rfl) rfl) ?_
    refine hr_region_end ?_
    try dsimp only [w0, w1, w2, w3]
    rcases ifc h with ⟨hc5, h⟩ | ⟨hc5, h⟩
    · refine q_cond_t rfl (.tmp rfl) (decide_eq_true hc5) ?_
      refine q_skipc rfl ?_
      refine q_seq rfl ?_
      refine q_block rfl ?_
      refine q_seq rfl ?_
      refine q_region rfl rfl ?_
      refine qS 29 rfl (ok_move · (.tmp rfl)) ?_
      obtain ⟨p6, hp6, h⟩ := bindo h
      refine q_call (dst := some 30) rfl (.func _) (.cons (.tmp rfl) Evs.nil) (HInv.static unicode_utf8_DecodeRuneInString.at_ unicode_utf8_DecodeRuneInString.body (unicode_utf8_DecodeRuneInString.snd  hp6)) ?_
      rintro _ _ ⟨rfl, rfl⟩
      refine qS 28 rfl (ok_move · (.tmp rfl)) ?_
      refine qS 31 rfl (ok_extract · (.tmp rfl) rfl) ?_
      try dsimp only [w0, w1, w2, w3]
      refine qS 32 rfl (ok_extract · (.tmp rfl) rfl) ?_
      refine qS 8 rfl (ok_assign · (.tmp rfl)) ?_
      refine qS 9 rfl (ok_assign · (.tmp rfl)) ?_
      refine hr_region_end ?_
      try dsimp only [w0, w1, w2, w3]
      refine q_seq rfl ?_
      refine q_region rfl rfl ?_
      refine qS 33 rfl (ok_move · (.tmp rfl)) ?_
      refine qS 34 rfl (ok_move · (.tmp rfl)) ?_
      refine qS 35 rfl (ok_move · (.tmp rfl)) ?_
      refine qS 36 rfl (ok_move · (.tmp rfl)) ?_
      try dsimp only [w0, w1, w2, w3]
      obtain ⟨hg7, h⟩ := gd h
      refine qS 37 rfl (ok_slice_str (kl := .i64) (kh := .i64) (l := 0) (h := p6.1.2) · tu9 (.tmp rfl) (.inl ⟨rfl, rfl⟩) (.inr ⟨_, rfl, (.tmp rfl)⟩) hg7.1 hg7.2.1 hg7.2.2) ?_
      obtain ⟨p8, hp8, h⟩ := bindo h
      refine qS 38 rfl (ok_indexAddr (s := y6) · tu33 sz9 (.tmp rfl) (.tmp rfl) hp8) ?_
      obtain ⟨p9, hp9, h⟩ := bindo h
      refine qN rfl (ok_store_s (v := (.str (ssub y0 0 p6.1.2))) · sz9 (.tmp rfl) rfl (.tmp rfl) rfl hp9) ?_
      refine hr_region_end ?_
      try dsimp only [w0, w1, w2, w3]
      refine q_region rfl rfl ?_
      refine qS 39 rfl (ok_move · (.tmp rfl)) ?_
      refine qS 40 rfl (ok_move · (.tmp rfl)) ?_
      obtain ⟨hg10, h⟩ := gd h
      refine qS 41 rfl (ok_slice_str (kl := .i64) (kh := .i64) (l := p6.1.2) (h := (List.length y0 : Int)) · tu9 (.tmp rfl) (.inr ⟨_, rfl, (.tmp rfl)⟩) (.inl ⟨rfl, rfl⟩) hg10.1 hg10.2.1 hg10.2.2) ?_
      refine qS 0 rfl (ok_assign · (.tmp rfl)) ?_
      refine hr_region_end ?_
      try dsimp only [w0, w1, w2, w3]
      refine hr_inBlock ?_
      refine q_region rfl rfl ?_
      refine qS 26 rfl (ok_move · (.tmp rfl)) ?_
      refine qS 27 rfl (ok_ibin · (.tmp rfl) (.int _ _) rfl) ?_
      refine qS 7 rfl (ok_assign · (.tmp rfl)) ?_
      refine hr_region_end ?_
      try dsimp only [w0, w1, w2, w3]
      try dsimp only [w0, w1, w2, w3]
      exact ih h
    · refine q_cond_f rfl (.tmp rfl) (decide_eq_false hc5) ?_
      refine q_exit rfl rfl ?_
      refine q_seq rfl ?_
      refine q_seq rfl ?_
      refine q_region rfl rfl ?_
      refine qS 42 rfl (ok_move · (.tmp rfl)) ?_
      refine qS 43 rfl (ok_ibin · (.tmp rfl) (.int _ _) rfl) ?_
      refine hr_region_end ?_
      try dsimp only [w0, w1, w2, w3]
      rcases ifc h with ⟨hc11, h⟩ | ⟨hc11, h⟩
      · refine q_cond_t rfl (.tmp rfl) (decide_eq_true hc11) ?_
        refine q_region rfl rfl ?_
        refine qS 44 rfl (ok_move · (.tmp rfl)) ?_
        refine qS 45 rfl (ok_move · (.tmp rfl)) ?_
        refine qS 46 rfl (ok_ibin · (.tmp rfl) (.int _ _) rfl) ?_
        refine qS 47 rfl (ok_move · (.tmp rfl)) ?_
        try dsimp only [w0, w1, w2, w3]
        obtain ⟨p12, hp12, h⟩ := bindo h
        refine qS 48 rfl (ok_indexAddr (s := y6) · tu33 sz9 (.tmp rfl) (.tmp rfl) hp12) ?_
        obtain ⟨p13, hp13, h⟩ := bindo h
        refine qN rfl (ok_store_s (v := (.str y0)) · sz9 (.tmp rfl) rfl (.tmp rfl) rfl hp13) ?_
        refine hr_region_end ?_
        try dsimp only [w0, w1, w2, w3]
        try dsimp only [w0, w1, w2, w3]
        exact J3_snd  h
      · refine q_cond_f rfl (.tmp rfl) (decide_eq_false hc11) ?_
        refine q_skipc rfl ?_
        try dsimp only [w0, w1, w2, w3]
        exact J3_snd  h
def J1 (k : Nat) (y0 : (List UInt8)) (y1 : Int) (S : HS) : Option ((Sl) × HS) :=
  (Option.bind (HS.make S y1 y1 [(.str [])]) fun p4 =>
  L2 k k y0 y1 (p4.1) 0 (p4.2))
theorem J1_snd {k : Nat}  {y0 : (List UInt8)} {y1 : Int} {S : HS} {p : (Sl) × HS} {g2 g3 g4 g5 g6 g7 g8 g9 g10 g11 g12 g13 g14 g15 g16 g17 g18 g19 g20 g21 g22 g23 g24 g25 g26 g27 g28 g29 g30 g31 g32 g33 g34 g35 g36 g37 g38 g39 g40 g41 g42 g43 g44 g45 g46 g47 g48 g49 : HV} (h : J1 k y0 y1 S = some p) : HRun Tryd.prog base W0 β0 26 none [.code c10] ⟨[(.str y0), (.int .i64 y1), g2, g3, g4, g5, g6, g7, g8, g9, g10, g11, g12, g13, g14, g15, g16, g17, g18, g19, g20, g21, g22, g23, g24, g25, g26, g27, g28, g29, g30, g31, g32, g33, g34, g35, g36, g37, g38, g39, g40, g41, g42, g43, g44, g45, g46, g47, g48, g49], []⟩ S (fun v S1 => v = (Sl.hv p.1) ∧ S1 = p.2) := by
  unfold J1 at h
  refine q_seq rfl ?_
  refine q_region rfl rfl ?_
  refine qS 20 rfl (ok_move · (.tmp rfl)) ?_
  obtain ⟨p4, hp4, h⟩ := bindo h
  refine qS 21 rfl (ok_make el33 · (.tmp rfl) (.tmp rfl) hp4) ?_
  refine qS 6 rfl (ok_assign · (.tmp rfl)) ?_
  refine hr_region_end ?_
  try dsimp only [w0, w1, w2, w3]
  refine q_seq rfl ?_
  refine q_seq rfl ?_
  refine q_region rfl rfl ?_
  refine qS 7 rfl (ok_assign · (.int _ _)) ?_
  refine hr_region_end ?_
  try dsimp only [w0, w1, w2, w3]
  refine q_block rfl ?_
  refine q_loop rfl ?_
  try dsimp only [w0, w1, w2, w3]
  exact L2_snd  h
def J0 (k : Nat) (y0 : (List UInt8)) (y1 : Int) (y5 : Int) (y18 : Bool) (S : HS) : Option ((Sl) × HS) :=
  (if y18 = true then
  J1 k y0 y5 S else
  J1 k y0 y1 S)
theorem J0_snd {k : Nat}  {y0 : (List UInt8)} {y1 : Int} {y5 : Int} {y18 : Bool} {S : HS} {p : (Sl) × HS} {g2 g3 g4 g6 g7 g8 g9 g10 g11 g12 g13 g14 g15 g16 g17 g19 g20 g21 g22 g23 g24 g25 g26 g27 g28 g29 g30 g31 g32 g33 g34 g35 g36 g37 g38 g39 g40 g41 g42 g43 g44 g45 g46 g47 g48 g49 : HV} (h : J0 k y0 y1 y5 y18 S = some p) : HRun Tryd.prog base W0 β0 26 none [.code c7, .code c10] ⟨[(.str y0), (.int .i64 y1), g2, g3, g4, (.int .i64 y5), g6, g7, g8, g9, g10, g11, g12, g13, g14, g15, g16, g17, (.bool y18), g19, g20, g21, g22, g23, g24, g25, g26, g27, g28, g29, g30, g31, g32, g33, g34, g35, g36, g37, g38, g39, g40, g41, g42, g43, g44, g45, g46, g47, g48, g49], []⟩ S (fun v S1 => v = (Sl.hv p.1) ∧ S1 = p.2) := by
  unfold J0 at h
  rcases ifc h with ⟨hc3, h⟩ | ⟨hc3, h⟩
  · refine q_cond_t rfl (.tmp rfl) hc3 ?_
    refine q_region rfl rfl ?_
    refine qS 19 rfl (ok_move · (.tmp rfl)) ?_
    refine qS 1 rfl (ok_assign · (.tmp rfl)) ?_
    refine hr_region_end ?_
    try dsimp only [w0, w1, w2, w3]
    try dsimp only [w0, w1, w2, w3]
    exact J1_snd  h
  · refine q_cond_f rfl (.tmp rfl) (bfalse hc3) ?_
    refine q_skipc rfl ?_
    try dsimp only [w0, w1, w2, w3]
    exact J1_snd  h
def f (k : Nat) (x0 : (List UInt8)) (x1 : Int) (S : HS) : Option ((Sl) × HS) :=
  (Option.bind (unicode_utf8_RuneCountInString.f k x0) fun p1 =>
  (if x1 < 0 then
  J0 k x0 x1 p1 true S else
  J0 k x0 x1 p1 (decide (x1 > p1)) S))
theorem snd {k : Nat} {x0 : (List UInt8)} {x1 : Int} {S : HS}  {p : (Sl) × HS} (h : f k x0 x1 S = some p) : HCall Tryd.prog base W0 β0 26 [(.str x0), (.int .i64 x1)] S (fun v S1 => v = (Sl.hv p.1) ∧ S1 = p.2) := by
  unfold f at h
  refine HCall.of_run at_.at_ body ?_
  show HRun Tryd.prog base W0 β0 26 none [.code c0] ⟨[(.str x0), (.int .i64 x1), τ, τ, τ, τ, τ, τ, τ, τ, τ, τ, τ, τ, τ, τ, τ, τ, τ, τ, τ, τ, τ, τ, τ, τ, τ, τ, τ, τ, τ, τ, τ, τ, τ, τ, τ, τ, τ, τ, τ, τ, τ, τ, τ, τ, τ, τ, τ, τ], []⟩ S _
  refine q_seq rfl ?_
  refine q_region rfl rfl ?_
  refine qS 4 rfl (ok_assign · (.const fun _ => .slNil none)) ?_
  refine hr_region_end ?_
  try dsimp only [w0, w1, w2, w3]
  refine q_seq rfl ?_
  refine q_region rfl rfl ?_
  refine qS 10 rfl (ok_move · (.tmp rfl)) ?_
  obtain ⟨p1, hp1, h⟩ := bindo h
  refine q_call (dst := some 11) rfl (.func _) (.cons (.tmp rfl) Evs.nil) (HInv.static unicode_utf8_RuneCountInString.at_ unicode_utf8_RuneCountInString.body (unicode_utf8_RuneCountInString.snd  hp1)) ?_
  rintro _ _ ⟨rfl, rfl⟩
  refine qS 5 rfl (ok_assign · (.tmp rfl)) ?_
  refine hr_region_end ?_
  try dsimp only [w0, w1, w2, w3]
  refine q_seq rfl ?_
  refine q_seq rfl ?_
  refine q_region rfl rfl ?_
  refine qS 12 rfl (ok_move · (.tmp rfl)) ?_
  refine qS 13 rfl (ok_ibin · (.tmp rfl) (.int _ _) rfl) ?_
  refine qS 14 rfl (ok_move · (.tmp rfl)) ?_
  rcases ifc h with ⟨hc2, h⟩ | ⟨hc2, h⟩
  · refine q_skip (dst := some 15) (t := 14) rfl rfl rfl (decide_eq_true hc2) ?_
    try dsimp only [w0, w1, w2, w3]
    refine q_skip (dst := some 16) (t := 14) rfl rfl rfl (decide_eq_true hc2) ?_
    refine q_skip (dst := some 17) (t := 14) rfl rfl rfl (decide_eq_true hc2) ?_
    refine qS 18 rfl (ok_pick_tt · (.tmp rfl) (decide_eq_true hc2) (.bool _)) ?_
    refine hr_region_end ?_
    try dsimp only [w0, w1, w2, w3]
    try dsimp only [w0, w1, w2, w3]
    exact J0_snd  h
  · refine qG 14 15 rfl (decide_eq_false hc2) (ok_move · (.tmp rfl)) ?_
    try dsimp only [w0, w1, w2, w3]
    refine qG 14 16 rfl (decide_eq_false hc2) (ok_move · (.tmp rfl)) ?_
    refine qG 14 17 rfl (decide_eq_false hc2) (ok_ibin · (.tmp rfl) (.tmp rfl) rfl) ?_
    refine qS 18 rfl (ok_pick_ff · (.tmp rfl) (decide_eq_false hc2) (.tmp rfl)) ?_
    refine hr_region_end ?_
    try dsimp only [w0, w1, w2, w3]
    try dsimp only [w0, w1, w2, w3]
    exact J0_snd  h
end
end strings_explode
namespace internal_stringslite_IndexByte
theorem at_ : FnAt Tryd.prog 39 Tryd.f39 := ⟨Tryd.func39, by kernel_rfl⟩
noncomputable def d0 := (Tryd.f39.body).getD .skip
noncomputable def r1 := kR (kA d0)
noncomputable def r3 := kR (kA (kB d0))
noncomputable def c0 : Code := .seq (.region 0 r1 false) (.seq (.region 1 r3 false) .ret)
theorem body : Tryd.f39.body = some c0 := by kernel_rfl
section
variable {base : Nat} {W0 : World} {β0 : Bt}
def f (x0 : (List UInt8)) (x1 : Int) : Option (Int) :=
  some (bidx x0 x1)
theorem snd {x0 : (List UInt8)} {x1 : Int} {S : HS}  {p : Int} (h : f x0 x1 = some p) : HCall Tryd.prog base W0 β0 39 [(.str x0), (.int .u8 x1)] S (fun v S1 => v = (.int .i64 p) ∧ S1 = S) := by
  unfold f at h
  refine HCall.of_run at_.at_ body ?_
  show HRun Tryd.prog base W0 β0 39 none [.code c0] ⟨[(.str x0), (.int .u8 x1), τ, τ, τ, τ, τ, τ], []⟩ S _
  refine q_seq rfl ?_
  refine q_region rfl rfl ?_
  refine qS 4 rfl (ok_assign · (.int _ _)) ?_
  refine hr_region_end ?_
  try dsimp only [w0, w1, w2, w3]
  refine q_seq rfl ?_
  refine q_region rfl rfl ?_
  refine qS 5 rfl (ok_move · (.tmp rfl)) ?_
  refine qS 6 rfl (ok_move · (.tmp rfl)) ?_
  refine qS 7 rfl (ok_idxByte · ext43 (.tmp rfl) (.tmp rfl)) ?_
  refine qS 4 rfl (ok_assign · (.tmp rfl)) ?_
  refine hr_region_end ?_
  try dsimp only [w0, w1, w2, w3]
  cases h
  exact q_ret rfl at_.at_ rfl (res1 rfl rfl) ⟨rfl, rfl⟩
end
end internal_stringslite_IndexByte
namespace internal_bytealg_Cutover
theorem at_ : FnAt Tryd.prog 41 Tryd.f41 := ⟨Tryd.func41, by kernel_rfl⟩
noncomputable def d0 := (Tryd.f41.body).getD .skip
noncomputable def r1 := kR (kA d0)
noncomputable def r3 := kR (kA (kB d0))
noncomputable def c0 : Code := .seq (.region 0 r1 false) (.seq (.region 1 r3 false) .ret)
theorem body : Tryd.f41.body = some c0 := by kernel_rfl
section
variable {base : Nat} {W0 : World} {β0 : Bt}
def f (x0 : Int) : Option (Int) :=
  some (w64 (Int.tdiv (w64 (x0 + 16)) 8))
theorem snd {x0 : Int} {S : HS}  {p : Int} (h : f x0 = some p) : HCall Tryd.prog base W0 β0 41 [(.int .i64 x0)] S (fun v S1 => v = (.int .i64 p) ∧ S1 = S) := by
  unfold f at h
  refine HCall.of_run at_.at_ body ?_
  show HRun Tryd.prog base W0 β0 41 none [.code c0] ⟨[(.int .i64 x0), τ, τ, τ, τ, τ], []⟩ S _
  refine q_seq rfl ?_
  refine q_region rfl rfl ?_
  refine qS 2 rfl (ok_assign · (.int _ _)) ?_
  refine hr_region_end ?_
  try dsimp only [w0, w1, w2, w3]
  refine q_seq rfl ?_
  refine q_region rfl rfl ?_
  refine qS 3 rfl (ok_move · (.tmp rfl)) ?_
  refine qS 4 rfl (ok_ibin · (.tmp rfl) (.int _ _) rfl) ?_
  refine qS 5 rfl (ok_quo · (.tmp rfl) (.int _ _) (by decide)) ?_
  refine qS 2 rfl (ok_assign · (.tmp rfl)) ?_
  refine hr_region_end ?_
  try dsimp only [w0, w1, w2, w3]
  cases h
  exact q_ret rfl at_.at_ rfl (res1 rfl rfl) ⟨rfl, rfl⟩
end
end internal_bytealg_Cutover
namespace internal_bytealg_hashStr_string
theorem at_ : FnAt Tryd.prog 44 Tryd.f44 := ⟨Tryd.func44, by kernel_rfl⟩
noncomputable def d0 := (Tryd.f44.body).getD .skip
noncomputable def r1 := kR (kA d0)
noncomputable def r3 := kR (kA (kB d0))
noncomputable def d5 := kA (kB (kB d0))
noncomputable def r6 := kR (kA d5)
noncomputable def r11 := kR (kA (kA (kA (kA (kB d5)))))
noncomputable def r17 := kR (kA (kA (kB (kA (kA (kB d5))))))
noncomputable def r18 := kR (kB (kB (kA (kA (kB d5)))))
noncomputable def d19 := kB (kB (kB d0))
noncomputable def r20 := kR (kA d19)
noncomputable def r23 := kR (kA (kA (kB d19)))
noncomputable def d24 := kB (kA (kB d19))
noncomputable def r28 := kR (kA (kA (kA (kA d24))))
noncomputable def d32 := kB (kA (kA d24))
noncomputable def r36 := kR (kA (kA (kA (kA d32))))
noncomputable def r38 := kR (kA (kB (kA (kA (kA d32)))))
noncomputable def r40 := kR (kB (kA (kA d32)))
noncomputable def r41 := kR (kB d32)
noncomputable def r43 := kR (kA (kB (kB d19)))
noncomputable def c42 : Code := .seq (.region 13 r43 false) .ret
noncomputable def c41 : Code := .region 9 r41 false
noncomputable def c40 : Code := .region 12 r40 false
noncomputable def c26 : Code := .seq (.seq (.region 8 r28 false) (.cond (.tmp 25) .skip (.exit 2))) (.seq (.block 3 (.seq (.seq (.region 10 r36 false) (.cond (.tmp 30) (.region 11 r38 false) .skip)) c40)) c41)
noncomputable def c19 : Code := .seq (.region 6 r20 false) (.seq (.seq (.region 7 r23 false) (.block 2 (.loop c26))) c42)
noncomputable def c9 : Code := .seq (.seq (.region 3 r11 false) (.cond (.tmp 12) .skip (.exit 0))) (.seq (.block 1 (.region 5 r17 false)) (.region 4 r18 false))
noncomputable def c0 : Code := .seq (.region 0 r1 false) (.seq (.region 1 r3 false) (.seq (.seq (.region 2 r6 false) (.block 0 (.loop c9))) c19))
theorem body : Tryd.f44.body = some c0 := by kernel_rfl
section
variable {base : Nat} {W0 : World} {β0 : Bt}
def J2 (k : Nat) (rec0 : Int → Int → Int → Int → Option (Int × Int)) (y4 : Int) (y6 : Int) (y7 : Int) (y8 : Int) : Option (Int × Int) :=
  rec0 y4 y6 (IntKind.wrap .u32 (y7 * y7)) (Int.fdiv y8 (2 ^ (min (Int.toNat 1) (IntKind.bits .i64))))
theorem J2_snd {k : Nat} {rec0 : Int → Int → Int → Int → Option (Int × Int)} (hrec0 : ∀ ⦃y4 : Int⦄ ⦃y6 : Int⦄ ⦃y7 : Int⦄ ⦃y8 : Int⦄ ⦃S : HS⦄ ⦃p : Int × Int⦄ ⦃g0 g1 g2 g3 g5 g9 g10 g11 g12 g13 g14 g15 g16 g17 g18 g19 g20 g21 g22 g23 g24 g25 g26 g27 g28 g29 g30 g31 g32 g33 g34 g35 g36 g37 g38 : HV⦄, rec0 y4 y6 y7 y8 = some p → HRun Tryd.prog base W0 β0 44 none [.inLoop c26, .inBlock 2, .code c42] ⟨[g0, g1, g2, g3, (.int .u32 y4), g5, (.int .u32 y6), (.int .u32 y7), (.int .i64 y8), g9, g10, g11, g12, g13, g14, g15, g16, g17, g18, g19, g20, g21, g22, g23, g24, g25, g26, g27, g28, g29, g30, g31, g32, g33, g34, g35, g36, g37, g38], []⟩ S (fun v S1 => v = (.tup [(.int .u32 p.1), (.int .u32 p.2)]) ∧ S1 = S)) {y4 : Int} {y6 : Int} {y7 : Int} {y8 : Int} {S : HS} {p : Int × Int} {g0 g1 g2 g3 g5 g9 g10 g11 g12 g13 g14 g15 g16 g17 g18 g19 g20 g21 g22 g23 g24 g25 g26 g27 g28 g29 g30 g31 g32 g33 g34 g35 g36 g37 g38 : HV} (h : J2 k rec0 y4 y6 y7 y8 = some p) : HRun Tryd.prog base W0 β0 44 none [.code c40, .inBlock 3, .code c41, .inLoop c26, .inBlock 2, .code c42] ⟨[g0, g1, g2, g3, (.int .u32 y4), g5, (.int .u32 y6), (.int .u32 y7), (.int .i64 y8), g9, g10, g11, g12, g13, g14, g15, g16, g17, g18, g19, g20, g21, g22, g23, g24, g25, g26, g27, g28, g29, g30, g31, g32, g33, g34, g35, g36, g37, g38], []⟩ S (fun v S1 => v = (.tup [(.int .u32 p.1), (.int .u32 p.2)]) ∧ S1 = S) := by
  unfold J2 at h
  refine q_region rfl rfl ?_
  refine qS 34 rfl (ok_move · (.tmp rfl)) ?_
  refine qS 35 rfl (ok_move · (.tmp rfl)) ?_
  refine qS 36 rfl (ok_ibin · (.tmp rfl) (.tmp rfl) rfl) ?_
  refine qS 7 rfl (ok_assign · (.tmp rfl)) ?_
  refine hr_region_end ?_
  try dsimp only [w0, w1, w2, w3]
  refine hr_inBlock ?_
  refine q_region rfl rfl ?_
  refine qS 26 rfl (ok_move · (.tmp rfl)) ?_
  refine qS 27 rfl (ok_shr · (.tmp rfl) (.int _ _) (by decide)) ?_
  refine qS 8 rfl (ok_assign · (.tmp rfl)) ?_
  refine hr_region_end ?_
  try dsimp only [w0, w1, w2, w3]
  try dsimp only [w0, w1, w2, w3]
  exact hrec0 h
def L1 (k : Nat) : Nat → Int → Int → Int → Int → Option (Int × Int)
  | 0, _, _, _, _ => none
  | n + 1, y4, y6, y7, y8 =>
    (if y8 > 0 then
    (if (!decide ((iand .i64 y8 1) = 0)) = true then
    J2 k (L1 k n) y4 (IntKind.wrap .u32 (y6 * y7)) y7 y8 else
    J2 k (L1 k n) y4 y6 y7 y8) else
    some (y4, y6))
theorem L1_snd {k : Nat}  : ∀ {n : Nat} ⦃y4 : Int⦄ ⦃y6 : Int⦄ ⦃y7 : Int⦄ ⦃y8 : Int⦄ ⦃S : HS⦄ ⦃p : Int × Int⦄ ⦃g0 g1 g2 g3 g5 g9 g10 g11 g12 g13 g14 g15 g16 g17 g18 g19 g20 g21 g22 g23 g24 g25 g26 g27 g28 g29 g30 g31 g32 g33 g34 g35 g36 g37 g38 : HV⦄, L1 k n y4 y6 y7 y8 = some p → HRun Tryd.prog base W0 β0 44 none [.inLoop c26, .inBlock 2, .code c42] ⟨[g0, g1, g2, g3, (.int .u32 y4), g5, (.int .u32 y6), (.int .u32 y7), (.int .i64 y8), g9, g10, g11, g12, g13, g14, g15, g16, g17, g18, g19, g20, g21, g22, g23, g24, g25, g26, g27, g28, g29, g30, g31, g32, g33, g34, g35, g36, g37, g38], []⟩ S (fun v S1 => v = (.tup [(.int .u32 p.1), (.int .u32 p.2)]) ∧ S1 = S) := by
  intro n
  induction n with
  | zero => intro _ _ _ _ _ _ _ _ _ _ _ _ _ _ _ _ _ _ _ _ _ _ _ _ _ _ _ _ _ _ _ _ _ _ _ _ _ _ _ _ _ h; cases h
  | succ n ih =>
    intro y4 y6 y7 y8 S p g0 g1 g2 g3 g5 g9 g10 g11 g12 g13 g14 g15 g16 g17 g18 g19 g20 g21 g22 g23 g24 g25 g26 g27 g28 g29 g30 g31 g32 g33 g34 g35 g36 g37 g38 h
    simp only [L1] at h
    refine hr_inLoop ?_
    refine q_seq rfl ?_
    refine q_seq rfl ?_
    refine q_region rfl rfl ?_
    refine qS 24 rfl (ok_move · (.tmp rfl)) ?_
    refine qS 25 rfl (ok_ibin · (.tmp rfl) (.int _ _) rfl) ?_
    refine hr_region_end ?_
    try dsimp only [w0, w1, w2, w3]
    rcases ifc h with ⟨hc3, h⟩ | ⟨hc3, h⟩
    · refine q_cond_t rfl (.tmp rfl) (decide_eq_true hc3) ?_
      refine q_skipc rfl ?_
      refine q_seq rfl ?_
      refine q_block rfl ?_
      refine q_seq rfl ?_
      refine q_seq rfl ?_
      refine q_region rfl rfl ?_
      refine qS 28 rfl (ok_move · (.tmp rfl)) ?_
      refine qS 29 rfl (ok_ibin · (.tmp rfl) (.int _ _) rfl) ?_
      refine qS 30 rfl (ok_ibin · (.tmp rfl) (.int _ _) rfl) ?_
      refine hr_region_end ?_
      try dsimp only [w0, w1, w2, w3]
      rcases ifc h with ⟨hc4, h⟩ | ⟨hc4, h⟩
      · refine q_cond_t rfl (.tmp rfl) hc4 ?_
        refine q_region rfl rfl ?_
        refine qS 31 rfl (ok_move · (.tmp rfl)) ?_
        refine qS 32 rfl (ok_move · (.tmp rfl)) ?_
        refine qS 33 rfl (ok_ibin · (.tmp rfl) (.tmp rfl) rfl) ?_
        refine qS 6 rfl (ok_assign · (.tmp rfl)) ?_
        refine hr_region_end ?_
        try dsimp only [w0, w1, w2, w3]
        try dsimp only [w0, w1, w2, w3]
        exact J2_snd ih h
      · refine q_cond_f rfl (.tmp rfl) (bfalse hc4) ?_
        refine q_skipc rfl ?_
        try dsimp only [w0, w1, w2, w3]
        exact J2_snd ih h
    · refine q_cond_f rfl (.tmp rfl) (decide_eq_false hc3) ?_
      refine q_exit rfl rfl ?_
      refine q_seq rfl ?_
      refine q_region rfl rfl ?_
      refine qS 37 rfl (ok_move · (.tmp rfl)) ?_
      refine qS 38 rfl (ok_move · (.tmp rfl)) ?_
      refine qS 2 rfl (ok_assign · (.tmp rfl)) ?_
      refine qS 3 rfl (ok_assign · (.tmp rfl)) ?_
      refine hr_region_end ?_
      try dsimp only [w0, w1, w2, w3]
      cases h
      exact q_ret rfl at_.at_ rfl (res2 rfl rfl rfl) ⟨rfl, rfl⟩
def L0 (k : Nat) : Nat → (List UInt8) → Int → Int → Option (Int × Int)
  | 0, _, _, _ => none
  | n + 1, y0, y4, y5 =>
    (if y5 < (List.length y0 : Int) then
    (Option.bind (sat y0 y5) fun p2 =>
    (L0 k n) y0 (IntKind.wrap .u32 ((IntKind.wrap .u32 (y4 * 16777619)) + (IntKind.wrap .u32 (UInt8.toNat p2 : Int)))) (w64 (y5 + 1))) else
    L1 k k y4 1 16777619 (List.length y0 : Int))
theorem L0_snd {k : Nat}  : ∀ {n : Nat} ⦃y0 : (List UInt8)⦄ ⦃y4 : Int⦄ ⦃y5 : Int⦄ ⦃S : HS⦄ ⦃p : Int × Int⦄ ⦃g1 g2 g3 g6 g7 g8 g9 g10 g11 g12 g13 g14 g15 g16 g17 g18 g19 g20 g21 g22 g23 g24 g25 g26 g27 g28 g29 g30 g31 g32 g33 g34 g35 g36 g37 g38 : HV⦄, L0 k n y0 y4 y5 = some p → HRun Tryd.prog base W0 β0 44 none [.inLoop c9, .inBlock 0, .code c19] ⟨[(.str y0), g1, g2, g3, (.int .u32 y4), (.int .i64 y5), g6, g7, g8, g9, g10, g11, g12, g13, g14, g15, g16, g17, g18, g19, g20, g21, g22, g23, g24, g25, g26, g27, g28, g29, g30, g31, g32, g33, g34, g35, g36, g37, g38], []⟩ S (fun v S1 => v = (.tup [(.int .u32 p.1), (.int .u32 p.2)]) ∧ S1 = S) := by
  intro n
  induction n with
  | zero => intro _ _ _ _ _ _ _ _ _ _ _ _ _ _ _ _ _ _ _ _ _ _ _ _ _ _ _ _ _ _ _ _ _ _ _ _ _ _ _ _ _ h; cases h
  | succ n ih =>
    intro y0 y4 y5 S p g1 g2 g3 g6 g7 g8 g9 g10 g11 g12 g13 g14 g15 g16 g17 g18 g19 g20 g21 g22 g23 g24 g25 g26 g27 g28 g29 g30 g31 g32 g33 g34 g35 g36 g37 g38 h
    simp only [L0] at h
    refine hr_inLoop ?_
    refine q_seq rfl ?_
    refine q_seq rfl ?_
    refine q_region rfl rfl ?_
    refine qS 9 rfl (ok_move · (.tmp rfl)) ?_
    refine qS 10 rfl (ok_move · (.tmp rfl)) ?_
    refine qS 11 rfl (ok_len_str · rfl tu9 (.tmp rfl)) ?_
    refine qS 12 rfl (ok_ibin · (.tmp rfl) (.tmp rfl) rfl) ?_
    refine hr_region_end ?_
    try dsimp only [w0, w1, w2, w3]
    rcases ifc h with ⟨hc1, h⟩ | ⟨hc1, h⟩
    · refine q_cond_t rfl (.tmp rfl) (decide_eq_true hc1) ?_
      refine q_skipc rfl ?_
      refine q_seq rfl ?_
      refine q_block rfl ?_
      refine q_region rfl rfl ?_
      refine qS 15 rfl (ok_move · (.tmp rfl)) ?_
      refine qS 16 rfl (ok_ibin · (.tmp rfl) (.int _ _) rfl) ?_
      refine qS 17 rfl (ok_move · (.tmp rfl)) ?_
      refine qS 18 rfl (ok_move · (.tmp rfl)) ?_
      try dsimp only [w0, w1, w2, w3]
      obtain ⟨p2, hp2, h⟩ := bindo h
      refine qS 19 rfl (ok_index_s · tu9 (.tmp rfl) (.tmp rfl) hp2) ?_
      refine qS 20 rfl (ok_conv_int · tu5 tu68 (.tmp rfl)) ?_
      refine qS 21 rfl (ok_ibin · (.tmp rfl) (.tmp rfl) rfl) ?_
      refine qS 4 rfl (ok_assign · (.tmp rfl)) ?_
      refine hr_region_end ?_
      try dsimp only [w0, w1, w2, w3]
      refine hr_inBlock ?_
      refine q_region rfl rfl ?_
      refine qS 13 rfl (ok_move · (.tmp rfl)) ?_
      refine qS 14 rfl (ok_ibin · (.tmp rfl) (.int _ _) rfl) ?_
      refine qS 5 rfl (ok_assign · (.tmp rfl)) ?_
      refine hr_region_end ?_
      try dsimp only [w0, w1, w2, w3]
      try dsimp only [w0, w1, w2, w3]
      exact ih h
    · refine q_cond_f rfl (.tmp rfl) (decide_eq_false hc1) ?_
      refine q_exit rfl rfl ?_
      refine q_seq rfl ?_
      refine q_region rfl rfl ?_
      refine qS 6 rfl (ok_assign · (.int _ _)) ?_
      refine qS 7 rfl (ok_assign · (.int _ _)) ?_
      refine hr_region_end ?_
      try dsimp only [w0, w1, w2, w3]
      refine q_seq rfl ?_
      refine q_seq rfl ?_
      refine q_region rfl rfl ?_
      refine qS 22 rfl (ok_move · (.tmp rfl)) ?_
      refine qS 23 rfl (ok_len_str · rfl tu9 (.tmp rfl)) ?_
      refine qS 8 rfl (ok_assign · (.tmp rfl)) ?_
      refine hr_region_end ?_
      try dsimp only [w0, w1, w2, w3]
      refine q_block rfl ?_
      refine q_loop rfl ?_
      try dsimp only [w0, w1, w2, w3]
      exact L1_snd  h
def f (k : Nat) (x0 : (List UInt8)) : Option (Int × Int) :=
  L0 k k x0 0 0
theorem snd {k : Nat} {x0 : (List UInt8)} {S : HS}  {p : Int × Int} (h : f k x0 = some p) : HCall Tryd.prog base W0 β0 44 [(.str x0)] S (fun v S1 => v = (.tup [(.int .u32 p.1), (.int .u32 p.2)]) ∧ S1 = S) := by
  unfold f at h
  refine HCall.of_run at_.at_ body ?_
  show HRun Tryd.prog base W0 β0 44 none [.code c0] ⟨[(.str x0), τ, τ, τ, τ, τ, τ, τ, τ, τ, τ, τ, τ, τ, τ, τ, τ, τ, τ, τ, τ, τ, τ, τ, τ, τ, τ, τ, τ, τ, τ, τ, τ, τ, τ, τ, τ, τ, τ], []⟩ S _
  refine q_seq rfl ?_
  refine q_region rfl rfl ?_
  refine qS 2 rfl (ok_assign · (.int _ _)) ?_
  refine qS 3 rfl (ok_assign · (.int _ _)) ?_
  refine hr_region_end ?_
  try dsimp only [w0, w1, w2, w3]
  refine q_seq rfl ?_
  refine q_region rfl rfl ?_
  refine qS 4 rfl (ok_assign · (.int _ _)) ?_
  refine hr_region_end ?_
  try dsimp only [w0, w1, w2, w3]
  refine q_seq rfl ?_
  refine q_seq rfl ?_
  refine q_region rfl rfl ?_
  refine qS 5 rfl (ok_assign · (.int _ _)) ?_
  refine hr_region_end ?_
  try dsimp only [w0, w1, w2, w3]
  refine q_block rfl ?_
  refine q_loop rfl ?_
  try dsimp only [w0, w1, w2, w3]
  exact L0_snd  h
end
end internal_bytealg_hashStr_string
namespace internal_bytealg_IndexRabinKarp_string
theorem at_ : FnAt Tryd.prog 42 Tryd.f42 := ⟨Tryd.func42, by kernel_rfl⟩
noncomputable def d0 := (Tryd.f42.body).getD .skip
noncomputable def r1 := kR (kA d0)
noncomputable def r3 := kR (kA (kB d0))
noncomputable def r5 := kR (kA (kB (kB d0)))
noncomputable def d6 := kB (kB (kB d0))
noncomputable def r7 := kR (kA d6)
noncomputable def r10 := kR (kA (kA (kB d6)))
noncomputable def d13 := kA (kA (kB (kA (kB d6))))
noncomputable def r15 := kR (kA (kA d13))
noncomputable def r21 := kR (kA (kA (kB d13)))
noncomputable def r22 := kR (kB (kB d13))
noncomputable def r25 := kR (kA (kA (kB (kB d6))))
noncomputable def r28 := kR (kA (kA (kB (kA (kB (kB d6))))))
noncomputable def d31 := kB (kB (kB d6))
noncomputable def r33 := kR (kA (kA d31))
noncomputable def d35 := kA (kB (kA d31))
noncomputable def r38 := kR (kA (kA (kA d35)))
noncomputable def d43 := kA (kB (kA d35))
noncomputable def r44 := kR (kA d43)
noncomputable def r46 := kR (kA (kB d43))
noncomputable def r48 := kR (kA (kB (kB d43)))
noncomputable def r50 := kR (kA (kB (kB (kB d43))))
noncomputable def r52 := kR (kA (kB (kB (kB (kB d43)))))
noncomputable def r55 := kR (kA (kA (kB (kB (kB (kB (kB d43)))))))
noncomputable def r59 := kR (kA (kB d31))
noncomputable def c58 : Code := .seq (.region 18 r59 false) .ret
noncomputable def c53 : Code := .cond (.tmp 77) (.seq (.region 17 r55 false) .ret) .skip
noncomputable def c36 : Code := .seq (.seq (.region 11 r38 false) (.cond (.tmp 44) .skip (.exit 2))) (.block 3 (.seq (.region 12 r44 false) (.seq (.region 13 r46 false) (.seq (.region 14 r48 false) (.seq (.region 15 r50 false) (.seq (.region 16 r52 false) c53))))))
noncomputable def c31 : Code := .seq (.seq (.region 10 r33 false) (.block 2 (.loop c36))) c58
noncomputable def c26 : Code := .cond (.tmp 39) (.seq (.region 9 r28 false) .ret) .skip
noncomputable def c23 : Code := .seq (.seq (.region 8 r25 false) c26) c31
noncomputable def c13 : Code := .seq (.seq (.region 5 r15 false) (.cond (.tmp 20) .skip (.exit 0))) (.seq (.block 1 (.region 7 r21 false)) (.region 6 r22 false))
noncomputable def c0 : Code := .seq (.region 0 r1 false) (.seq (.region 1 r3 false) (.seq (.region 2 r5 false) (.seq (.region 3 r7 false) (.seq (.seq (.region 4 r10 false) (.block 0 (.loop c13))) c23))))
theorem body : Tryd.f42.body = some c0 := by kernel_rfl
section
variable {base : Nat} {W0 : World} {β0 : Bt}
def J3 (k : Nat) (rec0 : (List UInt8) → (List UInt8) → Int → Int → Int → Int → Int → Option (Int)) (y0 : (List UInt8)) (y1 : (List UInt8)) (y5 : Int) (y6 : Int) (y7 : Int) (y8 : Int) (y10 : Int) (y77 : Bool) : Option (Int) :=
  (if y77 = true then
  some (w64 (y10 - y7)) else
  rec0 y0 y1 y5 y6 y7 y8 y10)
theorem J3_snd {k : Nat} {rec0 : (List UInt8) → (List UInt8) → Int → Int → Int → Int → Int → Option (Int)} (hrec0 : ∀ ⦃y0 : (List UInt8)⦄ ⦃y1 : (List UInt8)⦄ ⦃y5 : Int⦄ ⦃y6 : Int⦄ ⦃y7 : Int⦄ ⦃y8 : Int⦄ ⦃y10 : Int⦄ ⦃S : HS⦄ ⦃p : Int⦄ ⦃g2 g3 g4 g9 g11 g12 g13 g14 g15 g16 g17 g18 g19 g20 g21 g22 g23 g24 g25 g26 g27 g28 g29 g30 g31 g32 g33 g34 g35 g36 g37 g38 g39 g40 g41 g42 g43 g44 g45 g46 g47 g48 g49 g50 g51 g52 g53 g54 g55 g56 g57 g58 g59 g60 g61 g62 g63 g64 g65 g66 g67 g68 g69 g70 g71 g72 g73 g74 g75 g76 g77 g78 g79 g80 : HV⦄, rec0 y0 y1 y5 y6 y7 y8 y10 = some p → HRun Tryd.prog base W0 β0 42 none [.inLoop c36, .inBlock 2, .code c58] ⟨[(.str y0), (.str y1), g2, g3, g4, (.int .u32 y5), (.int .u32 y6), (.int .i64 y7), (.int .u32 y8), g9, (.int .i64 y10), g11, g12, g13, g14, g15, g16, g17, g18, g19, g20, g21, g22, g23, g24, g25, g26, g27, g28, g29, g30, g31, g32, g33, g34, g35, g36, g37, g38, g39, g40, g41, g42, g43, g44, g45, g46, g47, g48, g49, g50, g51, g52, g53, g54, g55, g56, g57, g58, g59, g60, g61, g62, g63, g64, g65, g66, g67, g68, g69, g70, g71, g72, g73, g74, g75, g76, g77, g78, g79, g80], []⟩ S (fun v S1 => v = (.int .i64 p) ∧ S1 = S)) {y0 : (List UInt8)} {y1 : (List UInt8)} {y5 : Int} {y6 : Int} {y7 : Int} {y8 : Int} {y10 : Int} {y77 : Bool} {S : HS} {p : Int} {g2 g3 g4 g9 g11 g12 g13 g14 g15 g16 g17 g18 g19 g20 g21 g22 g23 g24 g25 g26 g27 g28 g29 g30 g31 g32 g33 g34 g35 g36 g37 g38 g39 g40 g41 g42 g43 g44 g45 g46 g47 g48 g49 g50 g51 g52 g53 g54 g55 g56 g57 g58 g59 g60 g61 g62 g63 g64 g65 g66 g67 g68 g69 g70 g71 g72 g73 g74 g75 g76 g78 g79 g80 : HV} (h : J3 k rec0 y0 y1 y5 y6 y7 y8 y10 y77 = some p) : HRun Tryd.prog base W0 β0 42 none [.code c53, .inBlock 3, .inLoop c36, .inBlock 2, .code c58] ⟨[(.str y0), (.str y1), g2, g3, g4, (.int .u32 y5), (.int .u32 y6), (.int .i64 y7), (.int .u32 y8), g9, (.int .i64 y10), g11, g12, g13, g14, g15, g16, g17, g18, g19, g20, g21, g22, g23, g24, g25, g26, g27, g28, g29, g30, g31, g32, g33, g34, g35, g36, g37, g38, g39, g40, g41, g42, g43, g44, g45, g46, g47, g48, g49, g50, g51, g52, g53, g54, g55, g56, g57, g58, g59, g60, g61, g62, g63, g64, g65, g66, g67, g68, g69, g70, g71, g72, g73, g74, g75, g76, (.bool y77), g78, g79, g80], []⟩ S (fun v S1 => v = (.int .i64 p) ∧ S1 = S) := by
  unfold J3 at h
  rcases ifc h with ⟨hc12, h⟩ | ⟨hc12, h⟩
  · refine q_cond_t rfl (.tmp rfl) hc12 ?_
    refine q_seq rfl ?_
    refine q_region rfl rfl ?_
    refine qS 78 rfl (ok_move · (.tmp rfl)) ?_
    refine qS 79 rfl (ok_move · (.tmp rfl)) ?_
    refine qS 80 rfl (ok_ibin · (.tmp rfl) (.tmp rfl) rfl) ?_
    refine qS 4 rfl (ok_assign · (.tmp rfl)) ?_
    refine hr_region_end ?_
    try dsimp only [w0, w1, w2, w3]
    cases h
    exact q_ret rfl at_.at_ rfl (res1 rfl rfl) ⟨rfl, rfl⟩
  · refine q_cond_f rfl (.tmp rfl) (bfalse hc12) ?_
    refine q_skipc rfl ?_
    refine hr_inBlock ?_
    try dsimp only [w0, w1, w2, w3]
    exact hrec0 h
def L2 (k : Nat) : Nat → (List UInt8) → (List UInt8) → Int → Int → Int → Int → Int → Option (Int)
  | 0, _, _, _, _, _, _, _ => none
  | n + 1, y0, y1, y5, y6, y7, y8, y10 =>
    (if y10 < (List.length y0 : Int) then
    (Option.bind (sat y0 y10) fun p8 =>
    (Option.bind (sat y0 (w64 (y10 - y7))) fun p9 =>
    (if (IntKind.wrap .u32 ((IntKind.wrap .u32 ((IntKind.wrap .u32 (y8 * 16777619)) + (IntKind.wrap .u32 (UInt8.toNat p8 : Int)))) - (IntKind.wrap .u32 (y6 * (IntKind.wrap .u32 (UInt8.toNat p9 : Int)))))) = y5 then
    (if 0 ≤ ((w64 ((w64 (y10 + 1)) - y7)) : Int) ∧ ((w64 ((w64 (y10 + 1)) - y7)) : Int) ≤ (w64 (y10 + 1)) ∧ ((w64 (y10 + 1)) : Int) ≤ (List.length y0 : Int) then
    J3 k (L2 k n) y0 y1 y5 y6 y7 (IntKind.wrap .u32 ((IntKind.wrap .u32 ((IntKind.wrap .u32 (y8 * 16777619)) + (IntKind.wrap .u32 (UInt8.toNat p8 : Int)))) - (IntKind.wrap .u32 (y6 * (IntKind.wrap .u32 (UInt8.toNat p9 : Int)))))) (w64 (y10 + 1)) (decide ((ssub y0 (w64 ((w64 (y10 + 1)) - y7)) (w64 (y10 + 1))) = y1)) else none) else
    J3 k (L2 k n) y0 y1 y5 y6 y7 (IntKind.wrap .u32 ((IntKind.wrap .u32 ((IntKind.wrap .u32 (y8 * 16777619)) + (IntKind.wrap .u32 (UInt8.toNat p8 : Int)))) - (IntKind.wrap .u32 (y6 * (IntKind.wrap .u32 (UInt8.toNat p9 : Int)))))) (w64 (y10 + 1)) false))) else
    some (-1))
theorem L2_snd {k : Nat}  : ∀ {n : Nat} ⦃y0 : (List UInt8)⦄ ⦃y1 : (List UInt8)⦄ ⦃y5 : Int⦄ ⦃y6 : Int⦄ ⦃y7 : Int⦄ ⦃y8 : Int⦄ ⦃y10 : Int⦄ ⦃S : HS⦄ ⦃p : Int⦄ ⦃g2 g3 g4 g9 g11 g12 g13 g14 g15 g16 g17 g18 g19 g20 g21 g22 g23 g24 g25 g26 g27 g28 g29 g30 g31 g32 g33 g34 g35 g36 g37 g38 g39 g40 g41 g42 g43 g44 g45 g46 g47 g48 g49 g50 g51 g52 g53 g54 g55 g56 g57 g58 g59 g60 g61 g62 g63 g64 g65 g66 g67 g68 g69 g70 g71 g72 g73 g74 g75 g76 g77 g78 g79 g80 : HV⦄, L2 k n y0 y1 y5 y6 y7 y8 y10 = some p → HRun Tryd.prog base W0 β0 42 none [.inLoop c36, .inBlock 2, .code c58] ⟨[(.str y0), (.str y1), g2, g3, g4, (.int .u32 y5), (.int .u32 y6), (.int .i64 y7), (.int .u32 y8), g9, (.int .i64 y10), g11, g12, g13, g14, g15, g16, g17, g18, g19, g20, g21, g22, g23, g24, g25, g26, g27, g28, g29, g30, g31, g32, g33, g34, g35, g36, g37, g38, g39, g40, g41, g42, g43, g44, g45, g46, g47, g48, g49, g50, g51, g52, g53, g54, g55, g56, g57, g58, g59, g60, g61, g62, g63, g64, g65, g66, g67, g68, g69, g70, g71, g72, g73, g74, g75, g76, g77, g78, g79, g80], []⟩ S (fun v S1 => v = (.int .i64 p) ∧ S1 = S) := by
  intro n
  induction n with
  | zero => intro _ _ _ _ _ _ _ _ _ _ _ _ _ _ _ _ _ _ _ _ _ _ _ _ _ _ _ _ _ _ _ _ _ _ _ _ _ _ _ _ _ _ _ _ _ _ _ _ _ _ _ _ _ _ _ _ _ _ _ _ _ _ _ _ _ _ _ _ _ _ _ _ _ _ _ _ _ _ _ _ _ _ _ h; cases h
  | succ n ih =>
    intro y0 y1 y5 y6 y7 y8 y10 S p g2 g3 g4 g9 g11 g12 g13 g14 g15 g16 g17 g18 g19 g20 g21 g22 g23 g24 g25 g26 g27 g28 g29 g30 g31 g32 g33 g34 g35 g36 g37 g38 g39 g40 g41 g42 g43 g44 g45 g46 g47 g48 g49 g50 g51 g52 g53 g54 g55 g56 g57 g58 g59 g60 g61 g62 g63 g64 g65 g66 g67 g68 g69 g70 g71 g72 g73 g74 g75 g76 g77 g78 g79 g80 h
    simp only [L2] at h
    refine hr_inLoop ?_
    refine q_seq rfl ?_
    refine q_seq rfl ?_
    refine q_region rfl rfl ?_
    refine qS 41 rfl (ok_move · (.tmp rfl)) ?_
    refine qS 42 rfl (ok_move · (.tmp rfl)) ?_
    refine qS 43 rfl (ok_len_str · rfl tu9 (.tmp rfl)) ?_
    refine qS 44 rfl (ok_ibin · (.tmp rfl) (.tmp rfl) rfl) ?_
    refine hr_region_end ?_
    try dsimp only [w0, w1, w2, w3]
    rcases ifc h with ⟨hc7, h⟩ | ⟨hc7, h⟩
    · refine q_cond_t rfl (.tmp rfl) (decide_eq_true hc7) ?_
      refine q_skipc rfl ?_
      refine q_block rfl ?_
      refine q_seq rfl ?_
      refine q_region rfl rfl ?_
      refine qS 45 rfl (ok_move · (.tmp rfl)) ?_
      refine qS 46 rfl (ok_ibin · (.tmp rfl) (.int _ _) rfl) ?_
      refine qS 8 rfl (ok_assign · (.tmp rfl)) ?_
      refine hr_region_end ?_
      try dsimp only [w0, w1, w2, w3]
      refine q_seq rfl ?_
      refine q_region rfl rfl ?_
      refine qS 47 rfl (ok_move · (.tmp rfl)) ?_
      refine qS 48 rfl (ok_move · (.tmp rfl)) ?_
      refine qS 49 rfl (ok_move · (.tmp rfl)) ?_
      obtain ⟨p8, hp8, h⟩ := bindo h
      refine qS 50 rfl (ok_index_s · tu9 (.tmp rfl) (.tmp rfl) hp8) ?_
      try dsimp only [w0, w1, w2, w3]
      refine qS 51 rfl (ok_conv_int · tu5 tu68 (.tmp rfl)) ?_
      refine qS 52 rfl (ok_ibin · (.tmp rfl) (.tmp rfl) rfl) ?_
      refine qS 8 rfl (ok_assign · (.tmp rfl)) ?_
      refine hr_region_end ?_
      try dsimp only [w0, w1, w2, w3]
      refine q_seq rfl ?_
      refine q_region rfl rfl ?_
      refine qS 53 rfl (ok_move · (.tmp rfl)) ?_
      refine qS 54 rfl (ok_move · (.tmp rfl)) ?_
      refine qS 55 rfl (ok_move · (.tmp rfl)) ?_
      refine qS 56 rfl (ok_move · (.tmp rfl)) ?_
      try dsimp only [w0, w1, w2, w3]
      refine qS 57 rfl (ok_move · (.tmp rfl)) ?_
      refine qS 58 rfl (ok_ibin · (.tmp rfl) (.tmp rfl) rfl) ?_
      obtain ⟨p9, hp9, h⟩ := bindo h
      refine qS 59 rfl (ok_index_s · tu9 (.tmp rfl) (.tmp rfl) hp9) ?_
      refine qS 60 rfl (ok_conv_int · tu5 tu68 (.tmp rfl)) ?_
      try dsimp only [w0, w1, w2, w3]
      refine qS 61 rfl (ok_ibin · (.tmp rfl) (.tmp rfl) rfl) ?_
      refine qS 62 rfl (ok_ibin · (.tmp rfl) (.tmp rfl) rfl) ?_
      refine qS 8 rfl (ok_assign · (.tmp rfl)) ?_
      refine hr_region_end ?_
      try dsimp only [w0, w1, w2, w3]
      refine q_seq rfl ?_
      refine q_region rfl rfl ?_
      refine qS 63 rfl (ok_move · (.tmp rfl)) ?_
      refine qS 64 rfl (ok_ibin · (.tmp rfl) (.int _ _) rfl) ?_
      refine qS 10 rfl (ok_assign · (.tmp rfl)) ?_
      refine hr_region_end ?_
      try dsimp only [w0, w1, w2, w3]
      refine q_seq rfl ?_
      refine q_region rfl rfl ?_
      refine qS 65 rfl (ok_move · (.tmp rfl)) ?_
      refine qS 66 rfl (ok_move · (.tmp rfl)) ?_
      refine qS 67 rfl (ok_ibin · (.tmp rfl) (.tmp rfl) rfl) ?_
      refine qS 68 rfl (ok_move · (.tmp rfl)) ?_
      try dsimp only [w0, w1, w2, w3]
      rcases ifc h with ⟨hc10, h⟩ | ⟨hc10, h⟩
      · refine qG 68 69 rfl (decide_eq_true hc10) (ok_move · (.tmp rfl)) ?_
        refine qG 68 70 rfl (decide_eq_true hc10) (ok_move · (.tmp rfl)) ?_
        refine qG 68 71 rfl (decide_eq_true hc10) (ok_move · (.tmp rfl)) ?_
        refine qG 68 72 rfl (decide_eq_true hc10) (ok_ibin · (.tmp rfl) (.tmp rfl) rfl) ?_
        try dsimp only [w0, w1, w2, w3]
        refine qG 68 73 rfl (decide_eq_true hc10) (ok_move · (.tmp rfl)) ?_
        obtain ⟨hg11, h⟩ := gd h
        refine qG 68 74 rfl (decide_eq_true hc10) (ok_slice_str (kl := .i64) (kh := .i64) (l := (w64 ((w64 (y10 + 1)) - y7))) (h := (w64 (y10 + 1))) · tu9 (.tmp rfl) (.inr ⟨_, rfl, (.tmp rfl)⟩) (.inr ⟨_, rfl, (.tmp rfl)⟩) hg11.1 hg11.2.1 hg11.2.2) ?_
        refine qG 68 75 rfl (decide_eq_true hc10) (ok_move · (.tmp rfl)) ?_
        refine qG 68 76 rfl (decide_eq_true hc10) (ok_sbin · (.tmp rfl) (.tmp rfl) rfl) ?_
        try dsimp only [w0, w1, w2, w3]
        refine qS 77 rfl (ok_pick_tt · (.tmp rfl) (decide_eq_true hc10) (.tmp rfl)) ?_
        refine hr_region_end ?_
        try dsimp only [w0, w1, w2, w3]
        try dsimp only [w0, w1, w2, w3]
        exact J3_snd ih h
      · refine q_skip (dst := some 69) (t := 68) rfl rfl rfl (decide_eq_false hc10) ?_
        refine q_skip (dst := some 70) (t := 68) rfl rfl rfl (decide_eq_false hc10) ?_
        refine q_skip (dst := some 71) (t := 68) rfl rfl rfl (decide_eq_false hc10) ?_
        refine q_skip (dst := some 72) (t := 68) rfl rfl rfl (decide_eq_false hc10) ?_
        try dsimp only [w0, w1, w2, w3]
        refine q_skip (dst := some 73) (t := 68) rfl rfl rfl (decide_eq_false hc10) ?_
        refine q_skip (dst := some 74) (t := 68) rfl rfl rfl (decide_eq_false hc10) ?_
        refine q_skip (dst := some 75) (t := 68) rfl rfl rfl (decide_eq_false hc10) ?_
        refine q_skip (dst := some 76) (t := 68) rfl rfl rfl (decide_eq_false hc10) ?_
        try dsimp only [w0, w1, w2, w3]
        refine qS 77 rfl (ok_pick_ff · (.tmp rfl) (decide_eq_false hc10) (.bool _)) ?_
        refine hr_region_end ?_
        try dsimp only [w0, w1, w2, w3]
        try dsimp only [w0, w1, w2, w3]
        exact J3_snd ih h
    · refine q_cond_f rfl (.tmp rfl) (decide_eq_false hc7) ?_
      refine q_exit rfl rfl ?_
      refine q_seq rfl ?_
      refine q_region rfl rfl ?_
      refine qS 4 rfl (ok_assign · (.int _ _)) ?_
      refine hr_region_end ?_
      try dsimp only [w0, w1, w2, w3]
      cases h
      exact q_ret rfl at_.at_ rfl (res1 rfl rfl) ⟨rfl, rfl⟩
def J1 (k : Nat) (y0 : (List UInt8)) (y1 : (List UInt8)) (y5 : Int) (y6 : Int) (y7 : Int) (y8 : Int) (y39 : Bool) : Option (Int) :=
  (if y39 = true then
  some 0 else
  L2 k k y0 y1 y5 y6 y7 y8 y7)
theorem J1_snd {k : Nat}  {y0 : (List UInt8)} {y1 : (List UInt8)} {y5 : Int} {y6 : Int} {y7 : Int} {y8 : Int} {y39 : Bool} {S : HS} {p : Int} {g2 g3 g4 g9 g10 g11 g12 g13 g14 g15 g16 g17 g18 g19 g20 g21 g22 g23 g24 g25 g26 g27 g28 g29 g30 g31 g32 g33 g34 g35 g36 g37 g38 g40 g41 g42 g43 g44 g45 g46 g47 g48 g49 g50 g51 g52 g53 g54 g55 g56 g57 g58 g59 g60 g61 g62 g63 g64 g65 g66 g67 g68 g69 g70 g71 g72 g73 g74 g75 g76 g77 g78 g79 g80 : HV} (h : J1 k y0 y1 y5 y6 y7 y8 y39 = some p) : HRun Tryd.prog base W0 β0 42 none [.code c26, .code c31] ⟨[(.str y0), (.str y1), g2, g3, g4, (.int .u32 y5), (.int .u32 y6), (.int .i64 y7), (.int .u32 y8), g9, g10, g11, g12, g13, g14, g15, g16, g17, g18, g19, g20, g21, g22, g23, g24, g25, g26, g27, g28, g29, g30, g31, g32, g33, g34, g35, g36, g37, g38, (.bool y39), g40, g41, g42, g43, g44, g45, g46, g47, g48, g49, g50, g51, g52, g53, g54, g55, g56, g57, g58, g59, g60, g61, g62, g63, g64, g65, g66, g67, g68, g69, g70, g71, g72, g73, g74, g75, g76, g77, g78, g79, g80], []⟩ S (fun v S1 => v = (.int .i64 p) ∧ S1 = S) := by
  unfold J1 at h
  rcases ifc h with ⟨hc6, h⟩ | ⟨hc6, h⟩
  · refine q_cond_t rfl (.tmp rfl) hc6 ?_
    refine q_seq rfl ?_
    refine q_region rfl rfl ?_
    refine qS 4 rfl (ok_assign · (.int _ _)) ?_
    refine hr_region_end ?_
    try dsimp only [w0, w1, w2, w3]
    cases h
    exact q_ret rfl at_.at_ rfl (res1 rfl rfl) ⟨rfl, rfl⟩
  · refine q_cond_f rfl (.tmp rfl) (bfalse hc6) ?_
    refine q_skipc rfl ?_
    refine q_seq rfl ?_
    refine q_seq rfl ?_
    refine q_region rfl rfl ?_
    refine qS 40 rfl (ok_move · (.tmp rfl)) ?_
    refine qS 10 rfl (ok_assign · (.tmp rfl)) ?_
    refine hr_region_end ?_
    try dsimp only [w0, w1, w2, w3]
    refine q_block rfl ?_
    refine q_loop rfl ?_
    try dsimp only [w0, w1, w2, w3]
    exact L2_snd  h
def L0 (k : Nat) : Nat → (List UInt8) → (List UInt8) → Int → Int → Int → Int → Int → Option (Int)
  | 0, _, _, _, _, _, _, _ => none
  | n + 1, y0, y1, y5, y6, y7, y8, y9 =>
    (if y9 < y7 then
    (Option.bind (sat y0 y9) fun p3 =>
    (L0 k n) y0 y1 y5 y6 y7 (IntKind.wrap .u32 ((IntKind.wrap .u32 (y8 * 16777619)) + (IntKind.wrap .u32 (UInt8.toNat p3 : Int)))) (w64 (y9 + 1))) else
    (if y8 = y5 then
    (if 0 ≤ (0 : Int) ∧ (0 : Int) ≤ y7 ∧ (y7 : Int) ≤ (List.length y0 : Int) then
    J1 k y0 y1 y5 y6 y7 y8 (decide ((ssub y0 0 y7) = y1)) else none) else
    J1 k y0 y1 y5 y6 y7 y8 false))
theorem L0_snd {k : Nat}  : ∀ {n : Nat} ⦃y0 : (List UInt8)⦄ ⦃y1 : (List UInt8)⦄ ⦃y5 : Int⦄ ⦃y6 : Int⦄ ⦃y7 : Int⦄ ⦃y8 : Int⦄ ⦃y9 : Int⦄ ⦃S : HS⦄ ⦃p : Int⦄ ⦃g2 g3 g4 g10 g11 g12 g13 g14 g15 g16 g17 g18 g19 g20 g21 g22 g23 g24 g25 g26 g27 g28 g29 g30 g31 g32 g33 g34 g35 g36 g37 g38 g39 g40 g41 g42 g43 g44 g45 g46 g47 g48 g49 g50 g51 g52 g53 g54 g55 g56 g57 g58 g59 g60 g61 g62 g63 g64 g65 g66 g67 g68 g69 g70 g71 g72 g73 g74 g75 g76 g77 g78 g79 g80 : HV⦄, L0 k n y0 y1 y5 y6 y7 y8 y9 = some p → HRun Tryd.prog base W0 β0 42 none [.inLoop c13, .inBlock 0, .code c23] ⟨[(.str y0), (.str y1), g2, g3, g4, (.int .u32 y5), (.int .u32 y6), (.int .i64 y7), (.int .u32 y8), (.int .i64 y9), g10, g11, g12, g13, g14, g15, g16, g17, g18, g19, g20, g21, g22, g23, g24, g25, g26, g27, g28, g29, g30, g31, g32, g33, g34, g35, g36, g37, g38, g39, g40, g41, g42, g43, g44, g45, g46, g47, g48, g49, g50, g51, g52, g53, g54, g55, g56, g57, g58, g59, g60, g61, g62, g63, g64, g65, g66, g67, g68, g69, g70, g71, g72, g73, g74, g75, g76, g77, g78, g79, g80], []⟩ S (fun v S1 => v = (.int .i64 p) ∧ S1 = S) := by
  intro n
  induction n with
  | zero => intro _ _ _ _ _ _ _ _ _ _ _ _ _ _ _ _ _ _ _ _ _ _ _ _ _ _ _ _ _ _ _ _ _ _ _ _ _ _ _ _ _ _ _ _ _ _ _ _ _ _ _ _ _ _ _ _ _ _ _ _ _ _ _ _ _ _ _ _ _ _ _ _ _ _ _ _ _ _ _ _ _ _ _ h; cases h
  | succ n ih =>
    intro y0 y1 y5 y6 y7 y8 y9 S p g2 g3 g4 g10 g11 g12 g13 g14 g15 g16 g17 g18 g19 g20 g21 g22 g23 g24 g25 g26 g27 g28 g29 g30 g31 g32 g33 g34 g35 g36 g37 g38 g39 g40 g41 g42 g43 g44 g45 g46 g47 g48 g49 g50 g51 g52 g53 g54 g55 g56 g57 g58 g59 g60 g61 g62 g63 g64 g65 g66 g67 g68 g69 g70 g71 g72 g73 g74 g75 g76 g77 g78 g79 g80 h
    simp only [L0] at h
    refine hr_inLoop ?_
    refine q_seq rfl ?_
    refine q_seq rfl ?_
    refine q_region rfl rfl ?_
    refine qS 18 rfl (ok_move · (.tmp rfl)) ?_
    refine qS 19 rfl (ok_move · (.tmp rfl)) ?_
    refine qS 20 rfl (ok_ibin · (.tmp rfl) (.tmp rfl) rfl) ?_
    refine hr_region_end ?_
    try dsimp only [w0, w1, w2, w3]
    rcases ifc h with ⟨hc2, h⟩ | ⟨hc2, h⟩
    · refine q_cond_t rfl (.tmp rfl) (decide_eq_true hc2) ?_
      refine q_skipc rfl ?_
      refine q_seq rfl ?_
      refine q_block rfl ?_
      refine q_region rfl rfl ?_
      refine qS 23 rfl (ok_move · (.tmp rfl)) ?_
      refine qS 24 rfl (ok_ibin · (.tmp rfl) (.int _ _) rfl) ?_
      refine qS 25 rfl (ok_move · (.tmp rfl)) ?_
      refine qS 26 rfl (ok_move · (.tmp rfl)) ?_
      try dsimp only [w0, w1, w2, w3]
      obtain ⟨p3, hp3, h⟩ := bindo h
      refine qS 27 rfl (ok_index_s · tu9 (.tmp rfl) (.tmp rfl) hp3) ?_
      refine qS 28 rfl (ok_conv_int · tu5 tu68 (.tmp rfl)) ?_
      refine qS 29 rfl (ok_ibin · (.tmp rfl) (.tmp rfl) rfl) ?_
      refine qS 8 rfl (ok_assign · (.tmp rfl)) ?_
      refine hr_region_end ?_
      try dsimp only [w0, w1, w2, w3]
      refine hr_inBlock ?_
      refine q_region rfl rfl ?_
      refine qS 21 rfl (ok_move · (.tmp rfl)) ?_
      refine qS 22 rfl (ok_ibin · (.tmp rfl) (.int _ _) rfl) ?_
      refine qS 9 rfl (ok_assign · (.tmp rfl)) ?_
      refine hr_region_end ?_
      try dsimp only [w0, w1, w2, w3]
      try dsimp only [w0, w1, w2, w3]
      exact ih h
    · refine q_cond_f rfl (.tmp rfl) (decide_eq_false hc2) ?_
      refine q_exit rfl rfl ?_
      refine q_seq rfl ?_
      refine q_seq rfl ?_
      refine q_region rfl rfl ?_
      refine qS 30 rfl (ok_move · (.tmp rfl)) ?_
      refine qS 31 rfl (ok_move · (.tmp rfl)) ?_
      refine qS 32 rfl (ok_ibin · (.tmp rfl) (.tmp rfl) rfl) ?_
      refine qS 33 rfl (ok_move · (.tmp rfl)) ?_
      try dsimp only [w0, w1, w2, w3]
      rcases ifc h with ⟨hc4, h⟩ | ⟨hc4, h⟩
      · refine qG 33 34 rfl (decide_eq_true hc4) (ok_move · (.tmp rfl)) ?_
        refine qG 33 35 rfl (decide_eq_true hc4) (ok_move · (.tmp rfl)) ?_
        obtain ⟨hg5, h⟩ := gd h
        refine qG 33 36 rfl (decide_eq_true hc4) (ok_slice_str (kl := .i64) (kh := .i64) (l := 0) (h := y7) · tu9 (.tmp rfl) (.inl ⟨rfl, rfl⟩) (.inr ⟨_, rfl, (.tmp rfl)⟩) hg5.1 hg5.2.1 hg5.2.2) ?_
        refine qG 33 37 rfl (decide_eq_true hc4) (ok_move · (.tmp rfl)) ?_
        try dsimp only [w0, w1, w2, w3]
        refine qG 33 38 rfl (decide_eq_true hc4) (ok_sbin · (.tmp rfl) (.tmp rfl) rfl) ?_
        refine qS 39 rfl (ok_pick_tt · (.tmp rfl) (decide_eq_true hc4) (.tmp rfl)) ?_
        refine hr_region_end ?_
        try dsimp only [w0, w1, w2, w3]
        try dsimp only [w0, w1, w2, w3]
        exact J1_snd  h
      · refine q_skip (dst := some 34) (t := 33) rfl rfl rfl (decide_eq_false hc4) ?_
        refine q_skip (dst := some 35) (t := 33) rfl rfl rfl (decide_eq_false hc4) ?_
        refine q_skip (dst := some 36) (t := 33) rfl rfl rfl (decide_eq_false hc4) ?_
        refine q_skip (dst := some 37) (t := 33) rfl rfl rfl (decide_eq_false hc4) ?_
        try dsimp only [w0, w1, w2, w3]
        refine q_skip (dst := some 38) (t := 33) rfl rfl rfl (decide_eq_false hc4) ?_
        refine qS 39 rfl (ok_pick_ff · (.tmp rfl) (decide_eq_false hc4) (.bool _)) ?_
        refine hr_region_end ?_
        try dsimp only [w0, w1, w2, w3]
        try dsimp only [w0, w1, w2, w3]
        exact J1_snd  h
def f (k : Nat) (x0 : (List UInt8)) (x1 : (List UInt8)) : Option (Int) :=
  (Option.bind (internal_bytealg_hashStr_string.f k x1) fun p1 =>
  L0 k k x0 x1 p1.1 p1.2 (List.length x1 : Int) 0 0)
theorem snd {k : Nat} {x0 : (List UInt8)} {x1 : (List UInt8)} {S : HS}  {p : Int} (h : f k x0 x1 = some p) : HCall Tryd.prog base W0 β0 42 [(.str x0), (.str x1)] S (fun v S1 => v = (.int .i64 p) ∧ S1 = S) := by
  unfold f at h
  refine HCall.of_run at_.at_ body ?_
  show HRun Tryd.prog base W0 β0 42 none [.code c0] ⟨[(.str x0), (.str x1), τ, τ, τ, τ, τ, τ, τ, τ, τ, τ, τ, τ, τ, τ, τ, τ, τ, τ, τ, τ, τ, τ, τ, τ, τ, τ, τ, τ, τ, τ, τ, τ, τ, τ, τ, τ, τ, τ, τ, τ, τ, τ, τ, τ, τ, τ, τ, τ, τ, τ, τ, τ, τ, τ, τ, τ, τ, τ, τ, τ, τ, τ, τ, τ, τ, τ, τ, τ, τ, τ, τ, τ, τ, τ, τ, τ, τ, τ, τ], []⟩ S _
  refine q_seq rfl ?_
  refine q_region rfl rfl ?_
  refine qS 4 rfl (ok_assign · (.int _ _)) ?_
  refine hr_region_end ?_
  try dsimp only [w0, w1, w2, w3]
  refine q_seq rfl ?_
  refine q_region rfl rfl ?_
  refine qS 12 rfl (ok_move · (.tmp rfl)) ?_
  obtain ⟨p1, hp1, h⟩ := bindo h
  refine q_call (dst := some 13) rfl (.func _) (.cons (.tmp rfl) Evs.nil) (HInv.static internal_bytealg_hashStr_string.at_ internal_bytealg_hashStr_string.body (internal_bytealg_hashStr_string.snd  hp1)) ?_
  rintro _ _ ⟨rfl, rfl⟩
  refine qS 11 rfl (ok_move · (.tmp rfl)) ?_
  refine qS 14 rfl (ok_extract · (.tmp rfl) rfl) ?_
  try dsimp only [w0, w1, w2, w3]
  refine qS 15 rfl (ok_extract · (.tmp rfl) rfl) ?_
  refine qS 5 rfl (ok_assign · (.tmp rfl)) ?_
  refine qS 6 rfl (ok_assign · (.tmp rfl)) ?_
  refine hr_region_end ?_
  try dsimp only [w0, w1, w2, w3]
  refine q_seq rfl ?_
  refine q_region rfl rfl ?_
  refine qS 16 rfl (ok_move · (.tmp rfl)) ?_
  refine qS 17 rfl (ok_len_str · rfl tu9 (.tmp rfl)) ?_
  refine qS 7 rfl (ok_assign · (.tmp rfl)) ?_
  refine hr_region_end ?_
  try dsimp only [w0, w1, w2, w3]
  refine q_seq rfl ?_
  refine q_region rfl rfl ?_
  refine qS 8 rfl (ok_assign · (.int _ _)) ?_
  refine hr_region_end ?_
  try dsimp only [w0, w1, w2, w3]
  refine q_seq rfl ?_
  refine q_seq rfl ?_
  refine q_region rfl rfl ?_
  refine qS 9 rfl (ok_assign · (.int _ _)) ?_
  refine hr_region_end ?_
  try dsimp only [w0, w1, w2, w3]
  refine q_block rfl ?_
  refine q_loop rfl ?_
  try dsimp only [w0, w1, w2, w3]
  exact L0_snd  h
end
end internal_bytealg_IndexRabinKarp_string
namespace internal_stringslite_Index
theorem at_ : FnAt Tryd.prog 35 Tryd.f35 := ⟨Tryd.func35, by kernel_rfl⟩
noncomputable def d0 := (Tryd.f35.body).getD .skip
noncomputable def r1 := kR (kA d0)
noncomputable def r3 := kR (kA (kB d0))
noncomputable def d5 := kA (kB (kB d0))
noncomputable def r7 := kR (kA (kA d5))
noncomputable def r10 := kR (kA (kA (kB (kA d5))))
noncomputable def d12 := kB (kB (kA d5))
noncomputable def r13 := kR (kA d12)
noncomputable def r16 := kR (kA (kA (kB d12)))
noncomputable def r19 := kR (kA (kB (kB d12)))
noncomputable def r22 := kR (kA (kA (kB (kB (kB d12)))))
noncomputable def r25 := kR (kA (kB (kB (kB (kB d12)))))
noncomputable def r28 := kR (kA (kA (kB (kB (kB (kB (kB d12)))))))
noncomputable def d31 := kB (kB (kB d0))
noncomputable def r32 := kR (kA d31)
noncomputable def r34 := kR (kA (kB d31))
noncomputable def r36 := kR (kA (kB (kB d31)))
noncomputable def d37 := kB (kB (kB d31))
noncomputable def r38 := kR (kA d37)
noncomputable def r40 := kR (kA (kB d37))
noncomputable def d42 := kA (kB (kB d37))
noncomputable def r46 := kR (kA (kA (kA (kA d42))))
noncomputable def d50 := kB (kA (kA d42))
noncomputable def r53 := kR (kA (kA (kA d50)))
noncomputable def d54 := kB (kA (kA d50))
noncomputable def r56 := kR (kA (kA d54))
noncomputable def r59 := kR (kA (kA (kB (kA d54))))
noncomputable def r62 := kR (kA (kA (kB (kA (kB (kA d54))))))
noncomputable def r65 := kR (kB (kB (kA d54)))
noncomputable def r69 := kR (kA (kA (kB (kA d50))))
noncomputable def r72 := kR (kA (kA (kB (kA (kB (kA d50))))))
noncomputable def d75 := kB (kB (kA d50))
noncomputable def r76 := kR (kA d75)
noncomputable def r78 := kR (kA (kB d75))
noncomputable def r80 := kR (kA (kB (kB d75)))
noncomputable def d81 := kB (kB (kB d75))
noncomputable def r83 := kR (kA (kA d81))
noncomputable def r86 := kR (kA (kA (kB (kA d81))))
noncomputable def r89 := kR (kA (kA (kB (kA (kB (kA d81))))))
noncomputable def r93 := kR (kA (kB (kB (kA d81))))
noncomputable def r96 := kR (kA (kB d81))
noncomputable def d98 := kA (kB (kB d81))
noncomputable def r99 := kR (kA d98)
noncomputable def r102 := kR (kA (kA (kB d98)))
noncomputable def r105 := kR (kA (kA (kB (kA (kB d98)))))
noncomputable def r109 := kR (kA (kB (kB d98)))
noncomputable def r113 := kR (kA (kB (kB (kB d37))))
noncomputable def c31 : Code := .seq (.region 10 r32 false) (.seq (.region 11 r34 false) (.seq (.region 12 r36 false) (.seq (.region 13 r38 false) (.seq (.region 14 r40 false) (.seq (.block 1 (.loop (.seq (.seq (.region 15 r46 false) (.cond (.tmp 59) .skip (.exit 1))) (.block 2 (.seq (.seq (.region 16 r53 false) (.cond (.tmp 64) (.seq (.region 17 r56 false) (.seq (.seq (.region 18 r59 false) (.cond (.tmp 73) (.seq (.region 19 r62 false) .ret) .skip)) (.region 20 r65 false))) .skip)) (.seq (.seq (.region 21 r69 false) (.cond (.tmp 93) (.seq (.region 22 r72 false) .ret) .skip)) (.seq (.region 23 r76 false) (.seq (.region 24 r78 false) (.seq (.region 25 r80 false) (.cond (.tmp 107) (.seq (.region 26 r83 false) (.seq (.seq (.region 27 r86 false) (.cond (.tmp 114) (.seq (.region 28 r89 false) .ret) .skip)) (.seq (.region 29 r93 false) .ret))) (.seq (.region 30 r96 false) (.cond (.tmp 132) (.seq (.region 31 r99 false) (.seq (.seq (.region 32 r102 false) (.cond (.tmp 139) (.seq (.region 33 r105 false) .ret) .skip)) (.seq (.region 34 r109 false) .ret))) .skip)))))))))))) (.seq (.region 35 r113 false) .ret))))))
noncomputable def c8 : Code := .cond (.tmp 16) (.seq (.region 3 r10 false) .ret) (.seq (.region 4 r13 false) (.cond (.tmp 24) (.seq (.region 5 r16 false) .ret) (.seq (.region 6 r19 false) (.cond (.tmp 31) (.seq (.region 7 r22 false) .ret) (.seq (.region 8 r25 false) (.cond (.tmp 36) (.seq (.region 9 r28 false) .ret) .skip))))))
noncomputable def c0 : Code := .seq (.region 0 r1 false) (.seq (.region 1 r3 false) (.seq (.block 0 (.seq (.region 2 r7 false) c8)) c31))
theorem body : Tryd.f35.body = some c0 := by kernel_rfl
section
variable {base : Nat} {W0 : World} {β0 : Bt}
def J0 (k : Nat) (y0 : (List UInt8)) (y1 : (List UInt8)) (y5 : Int) (y23 : Bool) (S : HS) : Option ((Int) × HS) :=
  (if y23 = true then
  some (0, S) else
  (if y5 = 1 then
  (Option.bind (sat y1 0) fun p4 =>
  (Option.bind (internal_stringslite_IndexByte.f y0 (UInt8.toNat p4 : Int)) fun p5 =>
  some (p5, S))) else
  (if y5 ≥ (List.length y0 : Int) then
  some ((-1), S) else
  none)))
theorem J0_snd {k : Nat}  {y0 : (List UInt8)} {y1 : (List UInt8)} {y5 : Int} {y23 : Bool} {S : HS} {p : (Int) × HS} {g2 g3 g4 g6 g7 g8 g9 g10 g11 g12 g13 g14 g15 g16 g17 g18 g19 g20 g21 g22 g24 g25 g26 g27 g28 g29 g30 g31 g32 g33 g34 g35 g36 g37 g38 g39 g40 g41 g42 g43 g44 g45 g46 g47 g48 g49 g50 g51 g52 g53 g54 g55 g56 g57 g58 g59 g60 g61 g62 g63 g64 g65 g66 g67 g68 g69 g70 g71 g72 g73 g74 g75 g76 g77 g78 g79 g80 g81 g82 g83 g84 g85 g86 g87 g88 g89 g90 g91 g92 g93 g94 g95 g96 g97 g98 g99 g100 g101 g102 g103 g104 g105 g106 g107 g108 g109 g110 g111 g112 g113 g114 g115 g116 g117 g118 g119 g120 g121 g122 g123 g124 g125 g126 g127 g128 g129 g130 g131 g132 g133 g134 g135 g136 g137 g138 g139 g140 g141 g142 : HV} (h : J0 k y0 y1 y5 y23 S = some p) : HRun Tryd.prog base W0 β0 35 none [.inRegion r7 [7], .code c8, .inBlock 0, .code c31] ⟨[(.str y0), (.str y1), g2, g3, g4, (.int .i64 y5), g6, g7, g8, g9, g10, g11, g12, g13, g14, g15, g16, g17, g18, g19, g20, g21, g22, (.bool y23), g24, g25, g26, g27, g28, g29, g30, g31, g32, g33, g34, g35, g36, g37, g38, g39, g40, g41, g42, g43, g44, g45, g46, g47, g48, g49, g50, g51, g52, g53, g54, g55, g56, g57, g58, g59, g60, g61, g62, g63, g64, g65, g66, g67, g68, g69, g70, g71, g72, g73, g74, g75, g76, g77, g78, g79, g80, g81, g82, g83, g84, g85, g86, g87, g88, g89, g90, g91, g92, g93, g94, g95, g96, g97, g98, g99, g100, g101, g102, g103, g104, g105, g106, g107, g108, g109, g110, g111, g112, g113, g114, g115, g116, g117, g118, g119, g120, g121, g122, g123, g124, g125, g126, g127, g128, g129, g130, g131, g132, g133, g134, g135, g136, g137, g138, g139, g140, g141, g142], []⟩ S (fun v S1 => v = (.int .i64 p.1) ∧ S1 = p.2) := by
  unfold J0 at h
  refine qS 16 rfl (ok_assign · (.tmp rfl)) ?_
  refine hr_region_end ?_
  try dsimp only [w0, w1, w2, w3]
  rcases ifc h with ⟨hc2, h⟩ | ⟨hc2, h⟩
  · refine q_cond_t rfl (.tmp rfl) hc2 ?_
    refine q_seq rfl ?_
    refine q_region rfl rfl ?_
    refine qS 4 rfl (ok_assign · (.int _ _)) ?_
    refine hr_region_end ?_
    try dsimp only [w0, w1, w2, w3]
    cases h
    exact q_ret rfl at_.at_ rfl (res1 rfl rfl) ⟨rfl, rfl⟩
  · refine q_cond_f rfl (.tmp rfl) (bfalse hc2) ?_
    refine q_seq rfl ?_
    refine q_region rfl rfl ?_
    refine qS 25 rfl (ok_move · (.tmp rfl)) ?_
    refine qS 26 rfl (ok_ibin · (.tmp rfl) (.int _ _) rfl) ?_
    refine qS 24 rfl (ok_assign · (.tmp rfl)) ?_
    refine hr_region_end ?_
    try dsimp only [w0, w1, w2, w3]
    rcases ifc h with ⟨hc3, h⟩ | ⟨hc3, h⟩
    · refine q_cond_t rfl (.tmp rfl) (decide_eq_true hc3) ?_
      refine q_seq rfl ?_
      refine q_region rfl rfl ?_
      refine qS 27 rfl (ok_move · (.tmp rfl)) ?_
      refine qS 28 rfl (ok_move · (.tmp rfl)) ?_
      obtain ⟨p4, hp4, h⟩ := bindo h
      refine qS 29 rfl (ok_index_s · tu9 (.tmp rfl) (.int _ _) hp4) ?_
      obtain ⟨p5, hp5, h⟩ := bindo h
      refine q_call (dst := some 30) rfl (.func _) (.cons (.tmp rfl) (.cons (.tmp rfl) Evs.nil)) (HInv.static internal_stringslite_IndexByte.at_ internal_stringslite_IndexByte.body (internal_stringslite_IndexByte.snd  hp5)) ?_
      rintro _ _ ⟨rfl, rfl⟩
      try dsimp only [w0, w1, w2, w3]
      refine qS 4 rfl (ok_assign · (.tmp rfl)) ?_
      refine hr_region_end ?_
      try dsimp only [w0, w1, w2, w3]
      cases h
      exact q_ret rfl at_.at_ rfl (res1 rfl rfl) ⟨rfl, rfl⟩
    · refine q_cond_f rfl (.tmp rfl) (decide_eq_false hc3) ?_
      refine q_seq rfl ?_
      refine q_region rfl rfl ?_
      refine qS 32 rfl (ok_move · (.tmp rfl)) ?_
      refine qS 33 rfl (ok_move · (.tmp rfl)) ?_
      refine qS 34 rfl (ok_len_str · rfl tu9 (.tmp rfl)) ?_
      refine qS 35 rfl (ok_ibin · (.tmp rfl) (.tmp rfl) rfl) ?_
      try dsimp only [w0, w1, w2, w3]
      refine qS 31 rfl (ok_assign · (.tmp rfl)) ?_
      refine hr_region_end ?_
      try dsimp only [w0, w1, w2, w3]
      rcases ifc h with ⟨hc6, h⟩ | ⟨hc6, h⟩
      · refine q_cond_t rfl (.tmp rfl) (decide_eq_true hc6) ?_
        refine q_seq rfl ?_
        refine q_region rfl rfl ?_
        refine qS 4 rfl (ok_assign · (.int _ _)) ?_
        refine hr_region_end ?_
        try dsimp only [w0, w1, w2, w3]
        cases h
        exact q_ret rfl at_.at_ rfl (res1 rfl rfl) ⟨rfl, rfl⟩
      · refine q_cond_f rfl (.tmp rfl) (decide_eq_false hc6) ?_
        refine q_seq rfl ?_
        refine q_region rfl rfl ?_
        refine qS 37 rfl (ok_move · (.tmp rfl)) ?_
        cases h
def f (k : Nat) (x0 : (List UInt8)) (x1 : (List UInt8)) (S : HS) : Option ((Int) × HS) :=
  (if (List.length x1 : Int) = 0 then
  J0 k x0 x1 (List.length x1 : Int) true S else
  J0 k x0 x1 (List.length x1 : Int) (decide (x1 = x0)) S)
theorem snd {k : Nat} {x0 : (List UInt8)} {x1 : (List UInt8)} {S : HS}  {p : (Int) × HS} (h : f k x0 x1 S = some p) : HCall Tryd.prog base W0 β0 35 [(.str x0), (.str x1)] S (fun v S1 => v = (.int .i64 p.1) ∧ S1 = p.2) := by
  unfold f at h
  refine HCall.of_run at_.at_ body ?_
  show HRun Tryd.prog base W0 β0 35 none [.code c0] ⟨[(.str x0), (.str x1), τ, τ, τ, τ, τ, τ, τ, τ, τ, τ, τ, τ, τ, τ, τ, τ, τ, τ, τ, τ, τ, τ, τ, τ, τ, τ, τ, τ, τ, τ, τ, τ, τ, τ, τ, τ, τ, τ, τ, τ, τ, τ, τ, τ, τ, τ, τ, τ, τ, τ, τ, τ, τ, τ, τ, τ, τ, τ, τ, τ, τ, τ, τ, τ, τ, τ, τ, τ, τ, τ, τ, τ, τ, τ, τ, τ, τ, τ, τ, τ, τ, τ, τ, τ, τ, τ, τ, τ, τ, τ, τ, τ, τ, τ, τ, τ, τ, τ, τ, τ, τ, τ, τ, τ, τ, τ, τ, τ, τ, τ, τ, τ, τ, τ, τ, τ, τ, τ, τ, τ, τ, τ, τ, τ, τ, τ, τ, τ, τ, τ, τ, τ, τ, τ, τ, τ, τ, τ, τ, τ, τ], []⟩ S _
  refine q_seq rfl ?_
  refine q_region rfl rfl ?_
  refine qS 4 rfl (ok_assign · (.int _ _)) ?_
  refine hr_region_end ?_
  try dsimp only [w0, w1, w2, w3]
  refine q_seq rfl ?_
  refine q_region rfl rfl ?_
  refine qS 14 rfl (ok_move · (.tmp rfl)) ?_
  refine qS 15 rfl (ok_len_str · rfl tu9 (.tmp rfl)) ?_
  refine qS 5 rfl (ok_assign · (.tmp rfl)) ?_
  refine hr_region_end ?_
  try dsimp only [w0, w1, w2, w3]
  refine q_seq rfl ?_
  refine q_block rfl ?_
  refine q_seq rfl ?_
  refine q_region rfl rfl ?_
  refine qS 17 rfl (ok_move · (.tmp rfl)) ?_
  refine qS 18 rfl (ok_ibin · (.tmp rfl) (.int _ _) rfl) ?_
  refine qS 19 rfl (ok_move · (.tmp rfl)) ?_
  rcases ifc h with ⟨hc1, h⟩ | ⟨hc1, h⟩
  · refine q_skip (dst := some 20) (t := 19) rfl rfl rfl (decide_eq_true hc1) ?_
    try dsimp only [w0, w1, w2, w3]
    refine q_skip (dst := some 21) (t := 19) rfl rfl rfl (decide_eq_true hc1) ?_
    refine q_skip (dst := some 22) (t := 19) rfl rfl rfl (decide_eq_true hc1) ?_
    refine qS 23 rfl (ok_pick_tt · (.tmp rfl) (decide_eq_true hc1) (.bool _)) ?_
    try dsimp only [w0, w1, w2, w3]
    exact J0_snd  h
  · refine qG 19 20 rfl (decide_eq_false hc1) (ok_move · (.tmp rfl)) ?_
    try dsimp only [w0, w1, w2, w3]
    refine qG 19 21 rfl (decide_eq_false hc1) (ok_move · (.tmp rfl)) ?_
    refine qG 19 22 rfl (decide_eq_false hc1) (ok_sbin · (.tmp rfl) (.tmp rfl) rfl) ?_
    refine qS 23 rfl (ok_pick_ff · (.tmp rfl) (decide_eq_false hc1) (.tmp rfl)) ?_
    try dsimp only [w0, w1, w2, w3]
    exact J0_snd  h
end
end internal_stringslite_Index
namespace strings_Index
theorem at_ : FnAt Tryd.prog 28 Tryd.f28 := ⟨Tryd.func28, by kernel_rfl⟩
noncomputable def d0 := (Tryd.f28.body).getD .skip
noncomputable def r1 := kR (kA d0)
noncomputable def r3 := kR (kA (kB d0))
noncomputable def c0 : Code := .seq (.region 0 r1 false) (.seq (.region 1 r3 false) .ret)
theorem body : Tryd.f28.body = some c0 := by kernel_rfl
section
variable {base : Nat} {W0 : World} {β0 : Bt}
def f (k : Nat) (x0 : (List UInt8)) (x1 : (List UInt8)) (S : HS) : Option ((Int) × HS) :=
  (Option.bind (internal_stringslite_Index.f k x0 x1 S) fun p1 =>
  some (p1.1, p1.2))
theorem snd {k : Nat} {x0 : (List UInt8)} {x1 : (List UInt8)} {S : HS}  {p : (Int) × HS} (h : f k x0 x1 S = some p) : HCall Tryd.prog base W0 β0 28 [(.str x0), (.str x1)] S (fun v S1 => v = (.int .i64 p.1) ∧ S1 = p.2) := by
  unfold f at h
  refine HCall.of_run at_.at_ body ?_
  show HRun Tryd.prog base W0 β0 28 none [.code c0] ⟨[(.str x0), (.str x1), τ, τ, τ, τ, τ, τ], []⟩ S _
  refine q_seq rfl ?_
  refine q_region rfl rfl ?_
  refine qS 4 rfl (ok_assign · (.int _ _)) ?_
  refine hr_region_end ?_
  try dsimp only [w0, w1, w2, w3]
  refine q_seq rfl ?_
  refine q_region rfl rfl ?_
  refine qS 5 rfl (ok_move · (.tmp rfl)) ?_
  refine qS 6 rfl (ok_move · (.tmp rfl)) ?_
  obtain ⟨p1, hp1, h⟩ := bindo h
  refine q_call (dst := some 7) rfl (.func _) (.cons (.tmp rfl) (.cons (.tmp rfl) Evs.nil)) (HInv.static internal_stringslite_Index.at_ internal_stringslite_Index.body (internal_stringslite_Index.snd  hp1)) ?_
  rintro _ _ ⟨rfl, rfl⟩
  refine qS 4 rfl (ok_assign · (.tmp rfl)) ?_
  refine hr_region_end ?_
  try dsimp only [w0, w1, w2, w3]
  cases h
  exact q_ret rfl at_.at_ rfl (res1 rfl rfl) ⟨rfl, rfl⟩
end
end strings_Index
namespace strings_genSplit
theorem at_ : FnAt Tryd.prog 21 Tryd.f21 := ⟨Tryd.func21, by kernel_rfl⟩
noncomputable def d0 := (Tryd.f21.body).getD .skip
noncomputable def r1 := kR (kA d0)
noncomputable def r4 := kR (kA (kA (kB d0)))
noncomputable def r7 := kR (kA (kA (kB (kA (kB d0)))))
noncomputable def r12 := kR (kA (kA (kB (kB d0))))
noncomputable def r15 := kR (kA (kA (kB (kA (kB (kB d0))))))
noncomputable def d18 := kB (kB (kB d0))
noncomputable def r20 := kR (kA (kA d18))
noncomputable def r22 := kR (kA (kB (kA d18)))
noncomputable def r25 := kR (kA (kB d18))
noncomputable def r27 := kR (kA (kB (kB d18)))
noncomputable def d28 := kB (kB (kB d18))
noncomputable def r29 := kR (kA d28)
noncomputable def r31 := kR (kA (kB d28))
noncomputable def d33 := kA (kB (kB d28))
noncomputable def r37 := kR (kA (kA (kA (kA d33))))
noncomputable def d41 := kB (kA (kA d33))
noncomputable def r43 := kR (kA (kA d41))
noncomputable def r46 := kR (kA (kA (kB (kA d41))))
noncomputable def r51 := kR (kA (kB (kB (kA d41))))
noncomputable def r53 := kR (kA (kB (kB (kB (kA d41)))))
noncomputable def r54 := kR (kB (kB (kB (kB (kA d41)))))
noncomputable def r56 := kR (kA (kB (kB (kB d28))))
noncomputable def r58 := kR (kA (kB (kB (kB (kB d28)))))
noncomputable def c55 : Code := .seq (.region 17 r56 false) (.seq (.region 18 r58 false) .ret)
noncomputable def c35 : Code := .seq (.seq (.region 11 r37 false) (.cond (.tmp 36) .skip (.exit 0))) (.block 1 (.seq (.region 12 r43 false) (.seq (.seq (.region 13 r46 false) (.cond (.tmp 41) (.exit 0) .skip)) (.seq (.region 14 r51 false) (.seq (.region 15 r53 false) (.region 16 r54 false))))))
noncomputable def c24 : Code := .seq (.region 7 r25 false) (.seq (.region 8 r27 false) (.seq (.region 9 r29 false) (.seq (.region 10 r31 false) (.seq (.block 0 (.loop c35)) c55))))
noncomputable def c0 : Code := .seq (.region 0 r1 false) (.seq (.seq (.region 1 r4 false) (.cond (.tmp 13) (.seq (.region 2 r7 false) .ret) .skip)) (.seq (.seq (.region 3 r12 false) (.cond (.tmp 15) (.seq (.region 4 r15 false) .ret) .skip)) (.seq (.seq (.region 5 r20 false) (.cond (.tmp 20) (.region 6 r22 false) .skip)) c24)))
theorem body : Tryd.f21.body = some c0 := by kernel_rfl
section
variable {base : Nat} {W0 : World} {β0 : Bt}
def J2 (k : Nat) (y0 : (List UInt8)) (y9 : Sl) (y10 : Int) (S : HS) : Option ((Sl) × HS) :=
  (Option.bind (HS.idx S y9 y10 1) fun p10 =>
  (Option.bind (HS.sets S p10 [(.str y0)]) fun p11 =>
  (Option.bind (HS.cut p11 y9 0 (w64 (y10 + 1)) 1) fun p12 =>
  some (p12, p11))))
theorem J2_snd {k : Nat}  {y0 : (List UInt8)} {y9 : Sl} {y10 : Int} {S : HS} {p : (Sl) × HS} {g1 g2 g3 g4 g5 g6 g7 g8 g11 g12 g13 g14 g15 g16 g17 g18 g19 g20 g21 g22 g23 g24 g25 g26 g27 g28 g29 g30 g31 g32 g33 g34 g35 g36 g37 g38 g39 g40 g41 g42 g43 g44 g45 g46 g47 g48 g49 g50 g51 g52 g53 g54 g55 g56 g57 g58 g59 g60 g61 g62 g63 g64 g65 : HV} (h : J2 k y0 y9 y10 S = some p) : HRun Tryd.prog base W0 β0 21 none [.code c55] ⟨[(.str y0), g1, g2, g3, g4, g5, g6, g7, g8, (Sl.hv y9), (.int .i64 y10), g11, g12, g13, g14, g15, g16, g17, g18, g19, g20, g21, g22, g23, g24, g25, g26, g27, g28, g29, g30, g31, g32, g33, g34, g35, g36, g37, g38, g39, g40, g41, g42, g43, g44, g45, g46, g47, g48, g49, g50, g51, g52, g53, g54, g55, g56, g57, g58, g59, g60, g61, g62, g63, g64, g65], []⟩ S (fun v S1 => v = (Sl.hv p.1) ∧ S1 = p.2) := by
  unfold J2 at h
  refine q_seq rfl ?_
  refine q_region rfl rfl ?_
  refine qS 58 rfl (ok_move · (.tmp rfl)) ?_
  refine qS 59 rfl (ok_move · (.tmp rfl)) ?_
  refine qS 60 rfl (ok_move · (.tmp rfl)) ?_
  obtain ⟨p10, hp10, h⟩ := bindo h
  refine qS 61 rfl (ok_indexAddr (s := y9) · tu33 sz9 (.tmp rfl) (.tmp rfl) hp10) ?_
  try dsimp only [w0, w1, w2, w3]
  obtain ⟨p11, hp11, h⟩ := bindo h
  refine qN rfl (ok_store_s (v := (.str y0)) · sz9 (.tmp rfl) rfl (.tmp rfl) rfl hp11) ?_
  refine hr_region_end ?_
  try dsimp only [w0, w1, w2, w3]
  refine q_seq rfl ?_
  refine q_region rfl rfl ?_
  refine qS 62 rfl (ok_move · (.tmp rfl)) ?_
  refine qS 63 rfl (ok_move · (.tmp rfl)) ?_
  refine qS 64 rfl (ok_ibin · (.tmp rfl) (.int _ _) rfl) ?_
  obtain ⟨p12, hp12, h⟩ := bindo h
  refine qS 65 rfl (ok_slice (kl := .i64) (kh := .i64) (s := y9) (l := 0) (h := (w64 (y10 + 1))) · tu33 si9 (.tmp rfl) (.inl ⟨rfl, rfl⟩) (.inr ⟨_, rfl, (.tmp rfl)⟩) hp12) ?_
  try dsimp only [w0, w1, w2, w3]
  refine qS 8 rfl (ok_assign · (.tmp rfl)) ?_
  refine hr_region_end ?_
  try dsimp only [w0, w1, w2, w3]
  cases h
  exact q_ret rfl at_.at_ rfl (res1 rfl rfl) ⟨rfl, rfl⟩
def L1 (k : Nat) : Nat → (List UInt8) → (List UInt8) → Int → Int → Sl → Int → HS → Option ((Sl) × HS)
  | 0, _, _, _, _, _, _, _ => none
  | n + 1, y0, y1, y2, y3, y9, y10, S =>
    (if y10 < y3 then
    (Option.bind (strings_Index.f k y0 y1 S) fun p8 =>
    (if p8.1 < 0 then
    J2 k y0 y9 y10 p8.2 else
    (if 0 ≤ (0 : Int) ∧ (0 : Int) ≤ (w64 (p8.1 + y2)) ∧ ((w64 (p8.1 + y2)) : Int) ≤ (List.length y0 : Int) then
    (Option.bind (HS.idx p8.2 y9 y10 1) fun p14 =>
    (Option.bind (HS.sets p8.2 p14 [(.str (ssub y0 0 (w64 (p8.1 + y2))))]) fun p15 =>
    (if 0 ≤ ((w64 (p8.1 + (List.length y1 : Int))) : Int) ∧ ((w64 (p8.1 + (List.length y1 : Int))) : Int) ≤ (List.length y0 : Int) ∧ ((List.length y0 : Int) : Int) ≤ (List.length y0 : Int) then
    (L1 k n) (ssub y0 (w64 (p8.1 + (List.length y1 : Int))) (List.length y0 : Int)) y1 y2 y3 y9 (w64 (y10 + 1)) p15 else none))) else none))) else
    J2 k y0 y9 y10 S)
theorem L1_snd {k : Nat}  : ∀ {n : Nat} ⦃y0 : (List UInt8)⦄ ⦃y1 : (List UInt8)⦄ ⦃y2 : Int⦄ ⦃y3 : Int⦄ ⦃y9 : Sl⦄ ⦃y10 : Int⦄ ⦃S : HS⦄ ⦃p : (Sl) × HS⦄ ⦃g4 g5 g6 g7 g8 g11 g12 g13 g14 g15 g16 g17 g18 g19 g20 g21 g22 g23 g24 g25 g26 g27 g28 g29 g30 g31 g32 g33 g34 g35 g36 g37 g38 g39 g40 g41 g42 g43 g44 g45 g46 g47 g48 g49 g50 g51 g52 g53 g54 g55 g56 g57 g58 g59 g60 g61 g62 g63 g64 g65 : HV⦄, L1 k n y0 y1 y2 y3 y9 y10 S = some p → HRun Tryd.prog base W0 β0 21 none [.inLoop c35, .inBlock 0, .code c55] ⟨[(.str y0), (.str y1), (.int .i64 y2), (.int .i64 y3), g4, g5, g6, g7, g8, (Sl.hv y9), (.int .i64 y10), g11, g12, g13, g14, g15, g16, g17, g18, g19, g20, g21, g22, g23, g24, g25, g26, g27, g28, g29, g30, g31, g32, g33, g34, g35, g36, g37, g38, g39, g40, g41, g42, g43, g44, g45, g46, g47, g48, g49, g50, g51, g52, g53, g54, g55, g56, g57, g58, g59, g60, g61, g62, g63, g64, g65], []⟩ S (fun v S1 => v = (Sl.hv p.1) ∧ S1 = p.2) := by
  intro n
  induction n with
  | zero => intro _ _ _ _ _ _ _ _ _ _ _ _ _ _ _ _ _ _ _ _ _ _ _ _ _ _ _ _ _ _ _ _ _ _ _ _ _ _ _ _ _ _ _ _ _ _ _ _ _ _ _ _ _ _ _ _ _ _ _ _ _ _ _ _ _ _ _ _ h; cases h
  | succ n ih =>
    intro y0 y1 y2 y3 y9 y10 S p g4 g5 g6 g7 g8 g11 g12 g13 g14 g15 g16 g17 g18 g19 g20 g21 g22 g23 g24 g25 g26 g27 g28 g29 g30 g31 g32 g33 g34 g35 g36 g37 g38 g39 g40 g41 g42 g43 g44 g45 g46 g47 g48 g49 g50 g51 g52 g53 g54 g55 g56 g57 g58 g59 g60 g61 g62 g63 g64 g65 h
    simp only [L1] at h
    refine hr_inLoop ?_
    refine q_seq rfl ?_
    refine q_seq rfl ?_
    refine q_region rfl rfl ?_
    refine qS 34 rfl (ok_move · (.tmp rfl)) ?_
    refine qS 35 rfl (ok_move · (.tmp rfl)) ?_
    refine qS 36 rfl (ok_ibin · (.tmp rfl) (.tmp rfl) rfl) ?_
    refine hr_region_end ?_
    try dsimp only [w0, w1, w2, w3]
    rcases ifc h with ⟨hc7, h⟩ | ⟨hc7, h⟩
    · refine q_cond_t rfl (.tmp rfl) (decide_eq_true hc7) ?_
      refine q_skipc rfl ?_
      refine q_block rfl ?_
      refine q_seq rfl ?_
      refine q_region rfl rfl ?_
      refine qS 37 rfl (ok_move · (.tmp rfl)) ?_
      refine qS 38 rfl (ok_move · (.tmp rfl)) ?_
      obtain ⟨p8, hp8, h⟩ := bindo h
      refine q_call (dst := some 39) rfl (.func _) (.cons (.tmp rfl) (.cons (.tmp rfl) Evs.nil)) (HInv.static strings_Index.at_ strings_Index.body (strings_Index.snd  hp8)) ?_
      rintro _ _ ⟨rfl, rfl⟩
      refine qS 11 rfl (ok_assign · (.tmp rfl)) ?_
      refine hr_region_end ?_
      try dsimp only [w0, w1, w2, w3]
      refine q_seq rfl ?_
      refine q_seq rfl ?_
      refine q_region rfl rfl ?_
      refine qS 40 rfl (ok_move · (.tmp rfl)) ?_
      refine qS 41 rfl (ok_ibin · (.tmp rfl) (.int _ _) rfl) ?_
      refine hr_region_end ?_
      try dsimp only [w0, w1, w2, w3]
      rcases ifc h with ⟨hc9, h⟩ | ⟨hc9, h⟩
      · refine q_cond_t rfl (.tmp rfl) (decide_eq_true hc9) ?_
        refine q_exit rfl rfl ?_
        try dsimp only [w0, w1, w2, w3]
        exact J2_snd  h
      · refine q_cond_f rfl (.tmp rfl) (decide_eq_false hc9) ?_
        refine q_skipc rfl ?_
        refine q_seq rfl ?_
        refine q_region rfl rfl ?_
        refine qS 42 rfl (ok_move · (.tmp rfl)) ?_
        refine qS 43 rfl (ok_move · (.tmp rfl)) ?_
        refine qS 44 rfl (ok_move · (.tmp rfl)) ?_
        refine qS 45 rfl (ok_move · (.tmp rfl)) ?_
        try dsimp only [w0, w1, w2, w3]
        refine qS 46 rfl (ok_move · (.tmp rfl)) ?_
        refine qS 47 rfl (ok_ibin · (.tmp rfl) (.tmp rfl) rfl) ?_
        obtain ⟨hg13, h⟩ := gd h
        refine qS 48 rfl (ok_slice_str (kl := .i64) (kh := .i64) (l := 0) (h := (w64 (p8.1 + y2))) · tu9 (.tmp rfl) (.inl ⟨rfl, rfl⟩) (.inr ⟨_, rfl, (.tmp rfl)⟩) hg13.1 hg13.2.1 hg13.2.2) ?_
        obtain ⟨p14, hp14, h⟩ := bindo h
        refine qS 49 rfl (ok_indexAddr (s := y9) · tu33 sz9 (.tmp rfl) (.tmp rfl) hp14) ?_
        try dsimp only [w0, w1, w2, w3]
        obtain ⟨p15, hp15, h⟩ := bindo h
        refine qN rfl (ok_store_s (v := (.str (ssub y0 0 (w64 (p8.1 + y2))))) · sz9 (.tmp rfl) rfl (.tmp rfl) rfl hp15) ?_
        refine hr_region_end ?_
        try dsimp only [w0, w1, w2, w3]
        refine q_seq rfl ?_
        refine q_region rfl rfl ?_
        refine qS 50 rfl (ok_move · (.tmp rfl)) ?_
        refine qS 51 rfl (ok_move · (.tmp rfl)) ?_
        refine qS 52 rfl (ok_move · (.tmp rfl)) ?_
        refine qS 53 rfl (ok_len_str · rfl tu9 (.tmp rfl)) ?_
        try dsimp only [w0, w1, w2, w3]
        refine qS 54 rfl (ok_ibin · (.tmp rfl) (.tmp rfl) rfl) ?_
        obtain ⟨hg16, h⟩ := gd h
        refine qS 55 rfl (ok_slice_str (kl := .i64) (kh := .i64) (l := (w64 (p8.1 + (List.length y1 : Int)))) (h := (List.length y0 : Int)) · tu9 (.tmp rfl) (.inr ⟨_, rfl, (.tmp rfl)⟩) (.inl ⟨rfl, rfl⟩) hg16.1 hg16.2.1 hg16.2.2) ?_
        refine qS 0 rfl (ok_assign · (.tmp rfl)) ?_
        refine hr_region_end ?_
        try dsimp only [w0, w1, w2, w3]
        refine q_region rfl rfl ?_
        refine qS 56 rfl (ok_move · (.tmp rfl)) ?_
        refine qS 57 rfl (ok_ibin · (.tmp rfl) (.int _ _) rfl) ?_
        refine qS 10 rfl (ok_assign · (.tmp rfl)) ?_
        refine hr_region_end ?_
        try dsimp only [w0, w1, w2, w3]
        refine hr_inBlock ?_
        try dsimp only [w0, w1, w2, w3]
        exact ih h
    · refine q_cond_f rfl (.tmp rfl) (decide_eq_false hc7) ?_
      refine q_exit rfl rfl ?_
      try dsimp only [w0, w1, w2, w3]
      exact J2_snd  h
def J0 (k : Nat) (y0 : (List UInt8)) (y1 : (List UInt8)) (y2 : Int) (y3 : Int) (S : HS) : Option ((Sl) × HS) :=
  (Option.bind (HS.make S (mn y3 (w64 ((List.length y0 : Int) + 1))) (mn y3 (w64 ((List.length y0 : Int) + 1))) [(.str [])]) fun p6 =>
  L1 k k y0 y1 y2 (w64 ((mn y3 (w64 ((List.length y0 : Int) + 1))) - 1)) (p6.1) 0 (p6.2))
theorem J0_snd {k : Nat}  {y0 : (List UInt8)} {y1 : (List UInt8)} {y2 : Int} {y3 : Int} {S : HS} {p : (Sl) × HS} {g4 g5 g6 g7 g8 g9 g10 g11 g12 g13 g14 g15 g16 g17 g18 g19 g20 g21 g22 g23 g24 g25 g26 g27 g28 g29 g30 g31 g32 g33 g34 g35 g36 g37 g38 g39 g40 g41 g42 g43 g44 g45 g46 g47 g48 g49 g50 g51 g52 g53 g54 g55 g56 g57 g58 g59 g60 g61 g62 g63 g64 g65 : HV} (h : J0 k y0 y1 y2 y3 S = some p) : HRun Tryd.prog base W0 β0 21 none [.code c24] ⟨[(.str y0), (.str y1), (.int .i64 y2), (.int .i64 y3), g4, g5, g6, g7, g8, g9, g10, g11, g12, g13, g14, g15, g16, g17, g18, g19, g20, g21, g22, g23, g24, g25, g26, g27, g28, g29, g30, g31, g32, g33, g34, g35, g36, g37, g38, g39, g40, g41, g42, g43, g44, g45, g46, g47, g48, g49, g50, g51, g52, g53, g54, g55, g56, g57, g58, g59, g60, g61, g62, g63, g64, g65], []⟩ S (fun v S1 => v = (Sl.hv p.1) ∧ S1 = p.2) := by
  unfold J0 at h
  refine q_seq rfl ?_
  refine q_region rfl rfl ?_
  refine qS 25 rfl (ok_move · (.tmp rfl)) ?_
  refine qS 26 rfl (ok_move · (.tmp rfl)) ?_
  refine qS 27 rfl (ok_len_str · rfl tu9 (.tmp rfl)) ?_
  refine qS 28 rfl (ok_ibin · (.tmp rfl) (.int _ _) rfl) ?_
  try dsimp only [w0, w1, w2, w3]
  refine qS 29 rfl (ok_min · (.tmp rfl) (.tmp rfl)) ?_
  refine qS 3 rfl (ok_assign · (.tmp rfl)) ?_
  refine hr_region_end ?_
  try dsimp only [w0, w1, w2, w3]
  refine q_seq rfl ?_
  refine q_region rfl rfl ?_
  refine qS 30 rfl (ok_move · (.tmp rfl)) ?_
  obtain ⟨p6, hp6, h⟩ := bindo h
  refine qS 31 rfl (ok_make el33 · (.tmp rfl) (.tmp rfl) hp6) ?_
  refine qS 9 rfl (ok_assign · (.tmp rfl)) ?_
  refine hr_region_end ?_
  try dsimp only [w0, w1, w2, w3]
  refine q_seq rfl ?_
  refine q_region rfl rfl ?_
  refine qS 32 rfl (ok_move · (.tmp rfl)) ?_
  refine qS 33 rfl (ok_ibin · (.tmp rfl) (.int _ _) rfl) ?_
  refine qS 3 rfl (ok_assign · (.tmp rfl)) ?_
  refine hr_region_end ?_
  try dsimp only [w0, w1, w2, w3]
  refine q_seq rfl ?_
  refine q_region rfl rfl ?_
  refine qS 10 rfl (ok_assign · (.int _ _)) ?_
  refine hr_region_end ?_
  try dsimp only [w0, w1, w2, w3]
  refine q_seq rfl ?_
  refine q_block rfl ?_
  refine q_loop rfl ?_
  try dsimp only [w0, w1, w2, w3]
  exact L1_snd  h
def f (k : Nat) (x0 : (List UInt8)) (x1 : (List UInt8)) (x2 : Int) (x3 : Int) (S : HS) : Option ((Sl) × HS) :=
  (if x3 = 0 then
  some (Sl.nil, S) else
  (if x1 = ([] : List UInt8) then
  (Option.bind (strings_explode.f k x0 x3 S) fun p3 =>
  some (p3.1, p3.2)) else
  (if x3 < 0 then
  (Option.bind (strings_Count.f x0 x1) fun p5 =>
  J0 k x0 x1 x2 (w64 (p5 + 1)) S) else
  J0 k x0 x1 x2 x3 S)))
theorem snd {k : Nat} {x0 : (List UInt8)} {x1 : (List UInt8)} {x2 : Int} {x3 : Int} {S : HS}  {p : (Sl) × HS} (h : f k x0 x1 x2 x3 S = some p) : HCall Tryd.prog base W0 β0 21 [(.str x0), (.str x1), (.int .i64 x2), (.int .i64 x3)] S (fun v S1 => v = (Sl.hv p.1) ∧ S1 = p.2) := by
  unfold f at h
  refine HCall.of_run at_.at_ body ?_
  show HRun Tryd.prog base W0 β0 21 none [.code c0] ⟨[(.str x0), (.str x1), (.int .i64 x2), (.int .i64 x3), τ, τ, τ, τ, τ, τ, τ, τ, τ, τ, τ, τ, τ, τ, τ, τ, τ, τ, τ, τ, τ, τ, τ, τ, τ, τ, τ, τ, τ, τ, τ, τ, τ, τ, τ, τ, τ, τ, τ, τ, τ, τ, τ, τ, τ, τ, τ, τ, τ, τ, τ, τ, τ, τ, τ, τ, τ, τ, τ, τ, τ, τ], []⟩ S _
  refine q_seq rfl ?_
  refine q_region rfl rfl ?_
  refine qS 8 rfl (ok_assign · (.const fun _ => .slNil none)) ?_
  refine hr_region_end ?_
  try dsimp only [w0, w1, w2, w3]
  refine q_seq rfl ?_
  refine q_seq rfl ?_
  refine q_region rfl rfl ?_
  refine qS 12 rfl (ok_move · (.tmp rfl)) ?_
  refine qS 13 rfl (ok_ibin · (.tmp rfl) (.int _ _) rfl) ?_
  refine hr_region_end ?_
  try dsimp only [w0, w1, w2, w3]
  rcases ifc h with ⟨hc1, h⟩ | ⟨hc1, h⟩
  · refine q_cond_t rfl (.tmp rfl) (decide_eq_true hc1) ?_
    refine q_seq rfl ?_
    refine q_region rfl rfl ?_
    refine qS 8 rfl (ok_assign · (.const fun _ => .slNil none)) ?_
    refine hr_region_end ?_
    try dsimp only [w0, w1, w2, w3]
    cases h
    exact q_ret rfl at_.at_ rfl (res1 rfl rfl) ⟨rfl, rfl⟩
  · refine q_cond_f rfl (.tmp rfl) (decide_eq_false hc1) ?_
    refine q_skipc rfl ?_
    refine q_seq rfl ?_
    refine q_seq rfl ?_
    refine q_region rfl rfl ?_
    refine qS 14 rfl (ok_move · (.tmp rfl)) ?_
    refine qS 15 rfl (ok_sbin · (.tmp rfl) (.str _) rfl) ?_
    refine hr_region_end ?_
    try dsimp only [w0, w1, w2, w3]
    rcases ifc h with ⟨hc2, h⟩ | ⟨hc2, h⟩
    · refine q_cond_t rfl (.tmp rfl) (decide_eq_true hc2) ?_
      refine q_seq rfl ?_
      refine q_region rfl rfl ?_
      refine qS 16 rfl (ok_move · (.tmp rfl)) ?_
      refine qS 17 rfl (ok_move · (.tmp rfl)) ?_
      obtain ⟨p3, hp3, h⟩ := bindo h
      refine q_call (dst := some 18) rfl (.func _) (.cons (.tmp rfl) (.cons (.tmp rfl) Evs.nil)) (HInv.static strings_explode.at_ strings_explode.body (strings_explode.snd  hp3)) ?_
      rintro _ _ ⟨rfl, rfl⟩
      refine qS 8 rfl (ok_assign · (.tmp rfl)) ?_
      refine hr_region_end ?_
      try dsimp only [w0, w1, w2, w3]
      cases h
      exact q_ret rfl at_.at_ rfl (res1 rfl rfl) ⟨rfl, rfl⟩
    · refine q_cond_f rfl (.tmp rfl) (decide_eq_false hc2) ?_
      refine q_skipc rfl ?_
      refine q_seq rfl ?_
      refine q_seq rfl ?_
      refine q_region rfl rfl ?_
      refine qS 19 rfl (ok_move · (.tmp rfl)) ?_
      refine qS 20 rfl (ok_ibin · (.tmp rfl) (.int _ _) rfl) ?_
      refine hr_region_end ?_
      try dsimp only [w0, w1, w2, w3]
      rcases ifc h with ⟨hc4, h⟩ | ⟨hc4, h⟩
      · refine q_cond_t rfl (.tmp rfl) (decide_eq_true hc4) ?_
        refine q_region rfl rfl ?_
        refine qS 21 rfl (ok_move · (.tmp rfl)) ?_
        refine qS 22 rfl (ok_move · (.tmp rfl)) ?_
        obtain ⟨p5, hp5, h⟩ := bindo h
        refine q_call (dst := some 23) rfl (.func _) (.cons (.tmp rfl) (.cons (.tmp rfl) Evs.nil)) (HInv.static strings_Count.at_ strings_Count.body (strings_Count.snd  hp5)) ?_
        rintro _ _ ⟨rfl, rfl⟩
        refine qS 24 rfl (ok_ibin · (.tmp rfl) (.int _ _) rfl) ?_
        try dsimp only [w0, w1, w2, w3]
        refine qS 3 rfl (ok_assign · (.tmp rfl)) ?_
        refine hr_region_end ?_
        try dsimp only [w0, w1, w2, w3]
        try dsimp only [w0, w1, w2, w3]
        exact J0_snd  h
      · refine q_cond_f rfl (.tmp rfl) (decide_eq_false hc4) ?_
        refine q_skipc rfl ?_
        try dsimp only [w0, w1, w2, w3]
        exact J0_snd  h
end
end strings_genSplit
namespace strings_Split
theorem at_ : FnAt Tryd.prog 15 Tryd.f15 := ⟨Tryd.func15, by kernel_rfl⟩
noncomputable def d0 := (Tryd.f15.body).getD .skip
noncomputable def r1 := kR (kA d0)
noncomputable def r3 := kR (kA (kB d0))
noncomputable def c0 : Code := .seq (.region 0 r1 false) (.seq (.region 1 r3 false) .ret)
theorem body : Tryd.f15.body = some c0 := by kernel_rfl
section
variable {base : Nat} {W0 : World} {β0 : Bt}
def f (k : Nat) (x0 : (List UInt8)) (x1 : (List UInt8)) (S : HS) : Option ((Sl) × HS) :=
  (Option.bind (strings_genSplit.f k x0 x1 0 (-1) S) fun p1 =>
  some (p1.1, p1.2))
theorem snd {k : Nat} {x0 : (List UInt8)} {x1 : (List UInt8)} {S : HS}  {p : (Sl) × HS} (h : f k x0 x1 S = some p) : HCall Tryd.prog base W0 β0 15 [(.str x0), (.str x1)] S (fun v S1 => v = (Sl.hv p.1) ∧ S1 = p.2) := by
  unfold f at h
  refine HCall.of_run at_.at_ body ?_
  show HRun Tryd.prog base W0 β0 15 none [.code c0] ⟨[(.str x0), (.str x1), τ, τ, τ, τ, τ, τ], []⟩ S _
  refine q_seq rfl ?_
  refine q_region rfl rfl ?_
  refine qS 4 rfl (ok_assign · (.const fun _ => .slNil none)) ?_
  refine hr_region_end ?_
  try dsimp only [w0, w1, w2, w3]
  refine q_seq rfl ?_
  refine q_region rfl rfl ?_
  refine qS 5 rfl (ok_move · (.tmp rfl)) ?_
  refine qS 6 rfl (ok_move · (.tmp rfl)) ?_
  obtain ⟨p1, hp1, h⟩ := bindo h
  refine q_call (dst := some 7) rfl (.func _) (.cons (.tmp rfl) (.cons (.tmp rfl) (.cons (.int _ _) (.cons (.int _ _) Evs.nil)))) (HInv.static strings_genSplit.at_ strings_genSplit.body (strings_genSplit.snd  hp1)) ?_
  rintro _ _ ⟨rfl, rfl⟩
  refine qS 4 rfl (ok_assign · (.tmp rfl)) ?_
  refine hr_region_end ?_
  try dsimp only [w0, w1, w2, w3]
  cases h
  exact q_ret rfl at_.at_ rfl (res1 rfl rfl) ⟨rfl, rfl⟩
end
end strings_Split
namespace internal_stringslite_HasPrefix
theorem at_ : FnAt Tryd.prog 29 Tryd.f29 := ⟨Tryd.func29, by kernel_rfl⟩
noncomputable def d0 := (Tryd.f29.body).getD .skip
noncomputable def r1 := kR (kA d0)
noncomputable def r3 := kR (kA (kB d0))
noncomputable def c4 : Code := .ret
noncomputable def c0 : Code := .seq (.region 0 r1 false) (.seq (.region 1 r3 false) c4)
theorem body : Tryd.f29.body = some c0 := by kernel_rfl
section
variable {base : Nat} {W0 : World} {β0 : Bt}
def J0  (y17 : Bool) : Option (Bool) :=
  some y17
theorem J0_snd   {y17 : Bool} {S : HS} {p : Bool} {g0 g1 g2 g3 g4 g5 g6 g7 g8 g9 g10 g11 g12 g13 g14 g15 g16 : HV} (h : J0  y17 = some p) : HRun Tryd.prog base W0 β0 29 none [.inRegion r3 [13], .code c4] ⟨[g0, g1, g2, g3, g4, g5, g6, g7, g8, g9, g10, g11, g12, g13, g14, g15, g16, (.bool y17)], []⟩ S (fun v S1 => v = (.bool p) ∧ S1 = S) := by
  unfold J0 at h
  refine qS 4 rfl (ok_assign · (.tmp rfl)) ?_
  refine hr_region_end ?_
  try dsimp only [w0, w1, w2, w3]
  cases h
  exact q_ret rfl at_.at_ rfl (res1 rfl rfl) ⟨rfl, rfl⟩
def f (x0 : (List UInt8)) (x1 : (List UInt8)) : Option (Bool) :=
  (if (List.length x0 : Int) ≥ (List.length x1 : Int) then
  (if 0 ≤ (0 : Int) ∧ (0 : Int) ≤ (List.length x1 : Int) ∧ ((List.length x1 : Int) : Int) ≤ (List.length x0 : Int) then
  J0 (decide ((ssub x0 0 (List.length x1 : Int)) = x1)) else none) else
  J0 false)
theorem snd {x0 : (List UInt8)} {x1 : (List UInt8)} {S : HS}  {p : Bool} (h : f x0 x1 = some p) : HCall Tryd.prog base W0 β0 29 [(.str x0), (.str x1)] S (fun v S1 => v = (.bool p) ∧ S1 = S) := by
  unfold f at h
  refine HCall.of_run at_.at_ body ?_
  show HRun Tryd.prog base W0 β0 29 none [.code c0] ⟨[(.str x0), (.str x1), τ, τ, τ, τ, τ, τ, τ, τ, τ, τ, τ, τ, τ, τ, τ, τ], []⟩ S _
  refine q_seq rfl ?_
  refine q_region rfl rfl ?_
  refine qS 4 rfl (ok_assign · (.bool _)) ?_
  refine hr_region_end ?_
  try dsimp only [w0, w1, w2, w3]
  refine q_seq rfl ?_
  refine q_region rfl rfl ?_
  refine qS 5 rfl (ok_move · (.tmp rfl)) ?_
  refine qS 6 rfl (ok_len_str · rfl tu9 (.tmp rfl)) ?_
  refine qS 7 rfl (ok_move · (.tmp rfl)) ?_
  refine qS 8 rfl (ok_len_str · rfl tu9 (.tmp rfl)) ?_
  try dsimp only [w0, w1, w2, w3]
  refine qS 9 rfl (ok_ibin · (.tmp rfl) (.tmp rfl) rfl) ?_
  refine qS 10 rfl (ok_move · (.tmp rfl)) ?_
  rcases ifc h with ⟨hc1, h⟩ | ⟨hc1, h⟩
  · refine qG 10 11 rfl (decide_eq_true hc1) (ok_move · (.tmp rfl)) ?_
    refine qG 10 12 rfl (decide_eq_true hc1) (ok_move · (.tmp rfl)) ?_
    try dsimp only [w0, w1, w2, w3]
    refine qG 10 13 rfl (decide_eq_true hc1) (ok_len_str · rfl tu9 (.tmp rfl)) ?_
    obtain ⟨hg2, h⟩ := gd h
    refine qG 10 14 rfl (decide_eq_true hc1) (ok_slice_str (kl := .i64) (kh := .i64) (l := 0) (h := (List.length x1 : Int)) · tu9 (.tmp rfl) (.inl ⟨rfl, rfl⟩) (.inr ⟨_, rfl, (.tmp rfl)⟩) hg2.1 hg2.2.1 hg2.2.2) ?_
    refine qG 10 15 rfl (decide_eq_true hc1) (ok_move · (.tmp rfl)) ?_
    refine qG 10 16 rfl (decide_eq_true hc1) (ok_sbin · (.tmp rfl) (.tmp rfl) rfl) ?_
    try dsimp only [w0, w1, w2, w3]
    refine qS 17 rfl (ok_pick_tt · (.tmp rfl) (decide_eq_true hc1) (.tmp rfl)) ?_
    try dsimp only [w0, w1, w2, w3]
    exact J0_snd  h
  · refine q_skip (dst := some 11) (t := 10) rfl rfl rfl (decide_eq_false hc1) ?_
    refine q_skip (dst := some 12) (t := 10) rfl rfl rfl (decide_eq_false hc1) ?_
    try dsimp only [w0, w1, w2, w3]
    refine q_skip (dst := some 13) (t := 10) rfl rfl rfl (decide_eq_false hc1) ?_
    refine q_skip (dst := some 14) (t := 10) rfl rfl rfl (decide_eq_false hc1) ?_
    refine q_skip (dst := some 15) (t := 10) rfl rfl rfl (decide_eq_false hc1) ?_
    refine q_skip (dst := some 16) (t := 10) rfl rfl rfl (decide_eq_false hc1) ?_
    try dsimp only [w0, w1, w2, w3]
    refine qS 17 rfl (ok_pick_ff · (.tmp rfl) (decide_eq_false hc1) (.bool _)) ?_
    try dsimp only [w0, w1, w2, w3]
    exact J0_snd  h
end
end internal_stringslite_HasPrefix
namespace internal_stringslite_CutPrefix
theorem at_ : FnAt Tryd.prog 22 Tryd.f22 := ⟨Tryd.func22, by kernel_rfl⟩
noncomputable def d0 := (Tryd.f22.body).getD .skip
noncomputable def r1 := kR (kA d0)
noncomputable def r4 := kR (kA (kA (kB d0)))
noncomputable def r7 := kR (kA (kA (kB (kA (kB d0)))))
noncomputable def r11 := kR (kA (kB (kB d0)))
noncomputable def c0 : Code := .seq (.region 0 r1 false) (.seq (.seq (.region 1 r4 false) (.cond (.tmp 9) (.seq (.region 2 r7 false) .ret) .skip)) (.seq (.region 3 r11 false) .ret))
theorem body : Tryd.f22.body = some c0 := by kernel_rfl
section
variable {base : Nat} {W0 : World} {β0 : Bt}
def f (x0 : (List UInt8)) (x1 : (List UInt8)) : Option ((List UInt8) × Bool) :=
  (Option.bind (internal_stringslite_HasPrefix.f x0 x1) fun p1 =>
  (if (!p1) = true then
  some (x0, false) else
  (if 0 ≤ ((List.length x1 : Int) : Int) ∧ ((List.length x1 : Int) : Int) ≤ (List.length x0 : Int) ∧ ((List.length x0 : Int) : Int) ≤ (List.length x0 : Int) then
  some ((ssub x0 (List.length x1 : Int) (List.length x0 : Int)), true) else none)))
theorem snd {x0 : (List UInt8)} {x1 : (List UInt8)} {S : HS}  {p : (List UInt8) × Bool} (h : f x0 x1 = some p) : HCall Tryd.prog base W0 β0 22 [(.str x0), (.str x1)] S (fun v S1 => v = (.tup [(.str p.1), (.bool p.2)]) ∧ S1 = S) := by
  unfold f at h
  refine HCall.of_run at_.at_ body ?_
  show HRun Tryd.prog base W0 β0 22 none [.code c0] ⟨[(.str x0), (.str x1), τ, τ, τ, τ, τ, τ, τ, τ, τ, τ, τ, τ, τ], []⟩ S _
  refine q_seq rfl ?_
  refine q_region rfl rfl ?_
  refine qS 4 rfl (ok_assign · (.str _)) ?_
  refine qS 5 rfl (ok_assign · (.bool _)) ?_
  refine hr_region_end ?_
  try dsimp only [w0, w1, w2, w3]
  refine q_seq rfl ?_
  refine q_seq rfl ?_
  refine q_region rfl rfl ?_
  refine qS 6 rfl (ok_move · (.tmp rfl)) ?_
  refine qS 7 rfl (ok_move · (.tmp rfl)) ?_
  obtain ⟨p1, hp1, h⟩ := bindo h
  refine q_call (dst := some 8) rfl (.func _) (.cons (.tmp rfl) (.cons (.tmp rfl) Evs.nil)) (HInv.static internal_stringslite_HasPrefix.at_ internal_stringslite_HasPrefix.body (internal_stringslite_HasPrefix.snd  hp1)) ?_
  rintro _ _ ⟨rfl, rfl⟩
  refine qS 9 rfl (ok_not · (.tmp rfl)) ?_
  refine hr_region_end ?_
  try dsimp only [w0, w1, w2, w3]
  rcases ifc h with ⟨hc2, h⟩ | ⟨hc2, h⟩
  · refine q_cond_t rfl (.tmp rfl) hc2 ?_
    refine q_seq rfl ?_
    refine q_region rfl rfl ?_
    refine qS 10 rfl (ok_move · (.tmp rfl)) ?_
    refine qS 4 rfl (ok_assign · (.tmp rfl)) ?_
    refine qS 5 rfl (ok_assign · (.bool _)) ?_
    refine hr_region_end ?_
    try dsimp only [w0, w1, w2, w3]
    cases h
    exact q_ret rfl at_.at_ rfl (res2 rfl rfl rfl) ⟨rfl, rfl⟩
  · refine q_cond_f rfl (.tmp rfl) (bfalse hc2) ?_
    refine q_skipc rfl ?_
    refine q_seq rfl ?_
    refine q_region rfl rfl ?_
    refine qS 11 rfl (ok_move · (.tmp rfl)) ?_
    refine qS 12 rfl (ok_move · (.tmp rfl)) ?_
    refine qS 13 rfl (ok_len_str · rfl tu9 (.tmp rfl)) ?_
    obtain ⟨hg3, h⟩ := gd h
    refine qS 14 rfl (ok_slice_str (kl := .i64) (kh := .i64) (l := (List.length x1 : Int)) (h := (List.length x0 : Int)) · tu9 (.tmp rfl) (.inr ⟨_, rfl, (.tmp rfl)⟩) (.inl ⟨rfl, rfl⟩) hg3.1 hg3.2.1 hg3.2.2) ?_
    try dsimp only [w0, w1, w2, w3]
    refine qS 4 rfl (ok_assign · (.tmp rfl)) ?_
    refine qS 5 rfl (ok_assign · (.bool _)) ?_
    refine hr_region_end ?_
    try dsimp only [w0, w1, w2, w3]
    cases h
    exact q_ret rfl at_.at_ rfl (res2 rfl rfl rfl) ⟨rfl, rfl⟩
end
end internal_stringslite_CutPrefix
namespace strings_CutPrefix
theorem at_ : FnAt Tryd.prog 16 Tryd.f16 := ⟨Tryd.func16, by kernel_rfl⟩
noncomputable def d0 := (Tryd.f16.body).getD .skip
noncomputable def r1 := kR (kA d0)
noncomputable def r3 := kR (kA (kB d0))
noncomputable def c0 : Code := .seq (.region 0 r1 false) (.seq (.region 1 r3 false) .ret)
theorem body : Tryd.f16.body = some c0 := by kernel_rfl
section
variable {base : Nat} {W0 : World} {β0 : Bt}
def f (x0 : (List UInt8)) (x1 : (List UInt8)) : Option ((List UInt8) × Bool) :=
  (Option.bind (internal_stringslite_CutPrefix.f x0 x1) fun p1 =>
  some (p1.1, p1.2))
theorem snd {x0 : (List UInt8)} {x1 : (List UInt8)} {S : HS}  {p : (List UInt8) × Bool} (h : f x0 x1 = some p) : HCall Tryd.prog base W0 β0 16 [(.str x0), (.str x1)] S (fun v S1 => v = (.tup [(.str p.1), (.bool p.2)]) ∧ S1 = S) := by
  unfold f at h
  refine HCall.of_run at_.at_ body ?_
  show HRun Tryd.prog base W0 β0 16 none [.code c0] ⟨[(.str x0), (.str x1), τ, τ, τ, τ, τ, τ, τ, τ, τ], []⟩ S _
  refine q_seq rfl ?_
  refine q_region rfl rfl ?_
  refine qS 4 rfl (ok_assign · (.str _)) ?_
  refine qS 5 rfl (ok_assign · (.bool _)) ?_
  refine hr_region_end ?_
  try dsimp only [w0, w1, w2, w3]
  refine q_seq rfl ?_
  refine q_region rfl rfl ?_
  refine qS 6 rfl (ok_move · (.tmp rfl)) ?_
  refine qS 7 rfl (ok_move · (.tmp rfl)) ?_
  obtain ⟨p1, hp1, h⟩ := bindo h
  refine q_call (dst := some 8) rfl (.func _) (.cons (.tmp rfl) (.cons (.tmp rfl) Evs.nil)) (HInv.static internal_stringslite_CutPrefix.at_ internal_stringslite_CutPrefix.body (internal_stringslite_CutPrefix.snd  hp1)) ?_
  rintro _ _ ⟨rfl, rfl⟩
  refine qS 9 rfl (ok_extract · (.tmp rfl) rfl) ?_
  try dsimp only [w0, w1, w2, w3]
  refine qS 10 rfl (ok_extract · (.tmp rfl) rfl) ?_
  refine qS 4 rfl (ok_assign · (.tmp rfl)) ?_
  refine qS 5 rfl (ok_assign · (.tmp rfl)) ?_
  refine hr_region_end ?_
  try dsimp only [w0, w1, w2, w3]
  cases h
  exact q_ret rfl at_.at_ rfl (res2 rfl rfl rfl) ⟨rfl, rfl⟩
end
end strings_CutPrefix
namespace caps_All_1
theorem at_ : FnAt Tryd.prog 20 Tryd.f20 := ⟨Tryd.func20, by kernel_rfl⟩
noncomputable def d0 := (Tryd.f20.body).getD .skip
noncomputable def r0 := kR d0
noncomputable def c0 : Code := .region 0 r0 false
theorem body : Tryd.f20.body = some c0 := by kernel_rfl
section
variable {base : Nat} {W0 : World} {β0 : Bt}
def J1 (D : Dp) (H : Hd) (S : HS) : Option ((Unit) × HS) :=
  some ((), S)
theorem J1_snd {D : Dp} {H : Hd} (hD : DSound Tryd.prog base W0 D) (hH : HSound Tryd.prog base W0 β0 H)  {S : HS} {p : (Unit) × HS} {g0 g1 g2 g3 g4 g5 g6 g7 g8 g9 g10 g11 : HV} (h : J1 D H S = some p) : HRun Tryd.prog base W0 β0 20 none [] ⟨[g0, g1, g2, g3, g4, g5, g6, g7, g8, g9, g10, g11], []⟩ S (fun v S1 => v = (.tup []) ∧ S1 = p.2) := by
  unfold J1 at h
  cases h
  exact q_end at_.at_ rfl (res0 rfl) ⟨rfl, rfl⟩
def J0 (D : Dp) (H : Hd) (y0 : HV) (y7 : Bool) (S : HS) : Option ((Unit) × HS) :=
  (if y7 = true then
  (Option.bind (D H y0 [(.str ([109, 117, 108, 116, 105, 45, 112, 114, 101, 102, 105, 120] : List UInt8)), (.int .i64 4)] S) fun p7 =>
  (Option.bind (dB p7.1) fun p8 =>
  J1 D H p7.2)) else
  J1 D H S)
theorem J0_snd {D : Dp} {H : Hd} (hD : DSound Tryd.prog base W0 D) (hH : HSound Tryd.prog base W0 β0 H)  {y0 : HV} {y7 : Bool} {S : HS} {p : (Unit) × HS} {g1 g2 g3 g4 g5 g6 g8 g9 g10 g11 : HV} (h : J0 D H y0 y7 S = some p) : HRun Tryd.prog base W0 β0 20 none [.inRegion r0 [6, 7, 8, 9]] ⟨[y0, g1, g2, g3, g4, g5, g6, (.bool y7), g8, g9, g10, g11], []⟩ S (fun v S1 => v = (.tup []) ∧ S1 = p.2) := by
  unfold J0 at h
  refine qS 8 rfl (ok_move · (.tmp rfl)) ?_
  rcases ifc h with ⟨hc6, h⟩ | ⟨hc6, h⟩
  · refine qG 8 9 rfl hc6 (ok_move · (.tmp rfl)) ?_
    try dsimp only [w0, w1, w2, w3]
    obtain ⟨p7, hp7, h⟩ := bindo h
    obtain ⟨p8, hp8, h⟩ := bindo h
    refine q_call_g (t := 8) (dst := some 10) rfl rfl rfl hc6 (.tmp rfl) (.cons (.str _) (.cons (.int _ _) Evs.nil)) (hD _ _ hH _ _ _ _ _ hp7) ?_
    rintro _ _ ⟨rfl, rfl⟩
    rw [dB_out hp8]
    refine qS 11 rfl (ok_pick_tt · (.tmp rfl) hc6 (.tmp rfl)) ?_
    refine hr_region_end ?_
    try dsimp only [w0, w1, w2, w3]
    try dsimp only [w0, w1, w2, w3]
    exact J1_snd hD hH h
  · refine q_skip (dst := some 9) (t := 8) rfl rfl rfl (bfalse hc6) ?_
    try dsimp only [w0, w1, w2, w3]
    refine q_skip (dst := some 10) (t := 8) rfl rfl rfl (bfalse hc6) ?_
    refine qS 11 rfl (ok_pick_ff · (.tmp rfl) (bfalse hc6) (.bool _)) ?_
    refine hr_region_end ?_
    try dsimp only [w0, w1, w2, w3]
    try dsimp only [w0, w1, w2, w3]
    exact J1_snd hD hH h
def f (D : Dp) (H : Hd) (x0 : HV) (S : HS) : Option ((Unit) × HS) :=
  (Option.bind (D H x0 [(.str ([97, 119, 97, 121, 45, 110, 111, 116, 105, 102, 121] : List UInt8)), (.int .i64 1)] S) fun p1 =>
  (Option.bind (dB p1.1) fun p2 =>
  (if p2 = true then
  (Option.bind (D H x0 [(.str ([101, 99, 104, 111, 45, 109, 101, 115, 115, 97, 103, 101] : List UInt8)), (.int .i64 2)] p1.2) fun p4 =>
  (Option.bind (dB p4.1) fun p5 =>
  J0 D H x0 p5 p4.2)) else
  J0 D H x0 false p1.2)))
theorem snd {D : Dp} {H : Hd} {x0 : HV} {S : HS} (hD : DSound Tryd.prog base W0 D) (hH : HSound Tryd.prog base W0 β0 H)  {p : (Unit) × HS} (h : f D H x0 S = some p) : HCall Tryd.prog base W0 β0 20 [x0] S (fun v S1 => v = (.tup []) ∧ S1 = p.2) := by
  unfold f at h
  refine HCall.of_run at_.at_ body ?_
  show HRun Tryd.prog base W0 β0 20 none [.code c0] ⟨[x0, τ, τ, τ, τ, τ, τ, τ, τ, τ, τ, τ], []⟩ S _
  refine q_region rfl rfl ?_
  refine qS 2 rfl (ok_move · (.tmp rfl)) ?_
  obtain ⟨p1, hp1, h⟩ := bindo h
  obtain ⟨p2, hp2, h⟩ := bindo h
  refine q_call (dst := some 3) rfl (.tmp rfl) (.cons (.str _) (.cons (.int _ _) Evs.nil)) (hD _ _ hH _ _ _ _ _ hp1) ?_
  rintro _ _ ⟨rfl, rfl⟩
  rw [dB_out hp2]
  refine qS 4 rfl (ok_move · (.tmp rfl)) ?_
  rcases ifc h with ⟨hc3, h⟩ | ⟨hc3, h⟩
  · refine qG 4 5 rfl hc3 (ok_move · (.tmp rfl)) ?_
    try dsimp only [w0, w1, w2, w3]
    obtain ⟨p4, hp4, h⟩ := bindo h
    obtain ⟨p5, hp5, h⟩ := bindo h
    refine q_call_g (t := 4) (dst := some 6) rfl rfl rfl hc3 (.tmp rfl) (.cons (.str _) (.cons (.int _ _) Evs.nil)) (hD _ _ hH _ _ _ _ _ hp4) ?_
    rintro _ _ ⟨rfl, rfl⟩
    rw [dB_out hp5]
    refine qS 7 rfl (ok_pick_tt · (.tmp rfl) hc3 (.tmp rfl)) ?_
    try dsimp only [w0, w1, w2, w3]
    exact J0_snd hD hH h
  · refine q_skip (dst := some 5) (t := 4) rfl rfl rfl (bfalse hc3) ?_
    try dsimp only [w0, w1, w2, w3]
    refine q_skip (dst := some 6) (t := 4) rfl rfl rfl (bfalse hc3) ?_
    refine qS 7 rfl (ok_pick_ff · (.tmp rfl) (bfalse hc3) (.bool _)) ?_
    try dsimp only [w0, w1, w2, w3]
    exact J0_snd hD hH h
end
end caps_All_1
namespace caps_All
theorem at_ : FnAt Tryd.prog 13 Tryd.f13 := ⟨Tryd.func13, by kernel_rfl⟩
noncomputable def d0 := (Tryd.f13.body).getD .skip
noncomputable def r1 := kR (kA d0)
noncomputable def r3 := kR (kA (kB d0))
noncomputable def c0 : Code := .seq (.region 0 r1 false) (.seq (.region 1 r3 false) .ret)
theorem body : Tryd.f13.body = some c0 := by kernel_rfl
section
variable {base : Nat} {W0 : World} {β0 : Bt}
def f  : Option (HV) :=
  some (HV.fn (.func 20) [] [])
theorem snd  {S : HS}  {p : HV} (h : f  = some p) : HCall Tryd.prog base W0 β0 13 [] S (fun v S1 => v = p ∧ S1 = S) := by
  unfold f at h
  refine HCall.of_run at_.at_ body ?_
  show HRun Tryd.prog base W0 β0 13 none [.code c0] ⟨[τ], []⟩ S _
  refine q_seq rfl ?_
  refine q_region rfl rfl ?_
  refine qS 0 rfl (ok_assign · (.const fun _ => .nilFn)) ?_
  refine hr_region_end ?_
  try dsimp only [w0, w1, w2, w3]
  refine q_seq rfl ?_
  refine q_region rfl rfl ?_
  refine qS 0 rfl (ok_assign · (.func _)) ?_
  refine hr_region_end ?_
  try dsimp only [w0, w1, w2, w3]
  cases h
  exact q_ret rfl at_.at_ rfl (res1 rfl rfl) ⟨rfl, rfl⟩
end
end caps_All
namespace caps_Number
theorem at_ : FnAt Tryd.prog 10 Tryd.f10 := ⟨Tryd.func10, by kernel_rfl⟩
noncomputable def d0 := (Tryd.f10.body).getD .skip
noncomputable def r1 := kR (kA d0)
noncomputable def r4 := kR (kA (kA (kB d0)))
noncomputable def d5 := kB (kA (kB d0))
noncomputable def r8 := kR (kA (kA (kA d5)))
noncomputable def r9 := kR (kB (kA (kA d5)))
noncomputable def r12 := kR (kA (kA (kB (kA d5))))
noncomputable def r15 := kR (kA (kA (kB (kA (kB (kA d5))))))
noncomputable def r19 := kR (kA (kB (kB d0)))
noncomputable def c10 : Code := .block 1 (.seq (.region 4 r12 false) (.cond (.tmp 10) (.seq (.region 5 r15 false) .ret) .skip))
noncomputable def c7 : Code := .seq (.region 2 r8 false) (.region 3 r9 false)
noncomputable def c0 : Code := .seq (.region 0 r1 false) (.seq (.seq (.region 1 r4 false) (.block 0 (.rangeFunc (.tmp 5) #[6, 7] c7 c10))) (.seq (.region 6 r19 false) .ret))
theorem body : Tryd.f10.body = some c0 := by kernel_rfl
section
variable {base : Nat} {W0 : World} {β0 : Bt}
def J0 (D : Dp) (H : Hd) (l : Nat) (y1 : (Option HA)) (y2 : (Option HA)) (y6 : (List UInt8)) (y7 : Int) (S : HS) : Option (HV × HS) :=
  (Option.bind (HS.begin_ S l) fun p4 =>
  (Option.bind (y1) fun p5 =>
  (Option.bind (HS.ldS p4 p5) fun p6 =>
  (if y6 = p6 then
  (Option.bind (y2) fun p8 =>
  (Option.bind (HS.sets p4 p8 [(.int .i64 y7)]) fun p9 =>
  (HS.endr p9 l (some .ret)))) else
  (HS.endr p4 l none)))))
theorem J0_snd {D : Dp} {H : Hd} {l : Nat} (hD : DSound Tryd.prog base W0 D) (hH : HSound Tryd.prog base W0 β0 H)  {y1 : (Option HA)} {y2 : (Option HA)} {y6 : (List UInt8)} {y7 : Int} {S : HS} {p : HV × HS} {g0 g3 g4 g5 g8 g9 g10 g11 : HV} (h : J0 D H l y1 y2 y6 y7 S = some p) : HRun Tryd.prog base W0 β0 10 (some l) [.code c7, .beginRound, .code c10] ⟨[g0, (.ptr y1), (.ptr y2), g3, g4, g5, (.str y6), (.int .i64 y7), g8, g9, g10, g11], []⟩ S (fun v S1 => v = p.1 ∧ S1 = p.2) := by
  unfold J0 at h
  refine q_seq rfl ?_
  refine q_region rfl rfl ?_
  refine qS 3 rfl (ok_assign · (.tmp rfl)) ?_
  refine hr_region_end ?_
  try dsimp only [w0, w1, w2, w3]
  refine q_region rfl rfl ?_
  refine qS 4 rfl (ok_assign · (.tmp rfl)) ?_
  refine hr_region_end ?_
  try dsimp only [w0, w1, w2, w3]
  obtain ⟨p4, hp4, h⟩ := bindo h
  refine q_begin hp4 ?_
  refine q_block rfl ?_
  refine q_seq rfl ?_
  refine q_region rfl rfl ?_
  refine qS 8 rfl (ok_move · (.tmp rfl)) ?_
  obtain ⟨p5, hp5, h⟩ := bindo h
  obtain ⟨p6, hp6, h⟩ := bindo h
  refine qS 9 rfl (ok_load_s · sc9 (.tmp rfl) hp5 (ldS_out hp6)) ?_
  refine qS 10 rfl (ok_sbin · (.tmp rfl) (.tmp rfl) rfl) ?_
  refine hr_region_end ?_
  try dsimp only [w0, w1, w2, w3]
  rcases ifc h with ⟨hc7, h⟩ | ⟨hc7, h⟩
  · refine q_cond_t rfl (.tmp rfl) (decide_eq_true hc7) ?_
    refine q_seq rfl ?_
    refine q_region rfl rfl ?_
    refine qS 11 rfl (ok_move · (.tmp rfl)) ?_
    obtain ⟨p8, hp8, h⟩ := bindo h
    obtain ⟨p9, hp9, h⟩ := bindo h
    refine qN rfl (ok_store_s (v := (.int .i64 y7)) · sz3 (.tmp rfl) hp8 (.tmp rfl) rfl hp9) ?_
    refine hr_region_end ?_
    try dsimp only [w0, w1, w2, w3]
    exact q_round_ret rfl h ⟨rfl, rfl⟩
  · refine q_cond_f rfl (.tmp rfl) (decide_eq_false hc7) ?_
    refine q_skipc rfl ?_
    refine hr_inBlock ?_
    exact q_round_end h ⟨rfl, rfl⟩
def f (D : Dp) (H : Hd) (x0 : (List UInt8)) (S : HS) : Option ((Int) × HS) :=
  (letv (HS.new S (.cells 1 [[(.str x0)]] true)) fun p1 =>
  (letv (HS.new p1 (.cells 1 [[(.int .i64 0)]] true)) fun p2 =>
  (Option.bind (caps_All.f ) fun p3 =>
  (Option.bind (D (Hd.set H (HS.next p2 + 1) fun vs T =>
  (Option.bind (HS.lp T (HS.next p2 + 1)) fun u13 =>
  (Option.bind (args2 vs) fun ar10 =>
  (Option.bind (dS ar10.1) fun p11 =>
  (Option.bind (dI .i64 ar10.2) fun p12 =>
  (J0 D H (HS.next p2 + 1) (some (HA.cell0 S.next)) (some (HA.cell0 p1.next)) p11 p12 T)))))) p3 [.fn (.yield (HS.next p2 + 1)) [] []] (HS.new (HS.new p2 .defer) (.loop .ready none))) fun p14 =>
  (Option.bind (HS.finish p14.2 (HS.next p2 + 1)) fun p15 =>
  (Option.bind (pcode p15.1) fun n16 =>
  (if n16 = 0 then
  (Option.bind (HS.sets p15.2 (HA.cell0 p1.next) [(.int .i64 0)]) fun p18 =>
  (Option.bind (HS.leave p18 (HS.next p2 :: [])) fun p19 =>
  (Option.bind (HS.ldI p19 .i64 (HA.cell0 p1.next)) fun p20 =>
  some (p20, p19)))) else
  (if n16 = 1 then
  (Option.bind (HS.leave p15.2 (HS.next p2 :: [])) fun p22 =>
  (Option.bind (HS.ldI p22 .i64 (HA.cell0 p1.next)) fun p23 =>
  some (p23, p22))) else
  none))))))))
theorem snd {D : Dp} {H : Hd} {x0 : (List UInt8)} {S : HS} (hD : DSound Tryd.prog base W0 D) (hH : HSound Tryd.prog base W0 β0 H)  {p : (Int) × HS} (h : f D H x0 S = some p) : HCall Tryd.prog base W0 β0 10 [(.str x0)] S (fun v S1 => v = (.int .i64 p.1) ∧ S1 = p.2) := by
  unfold f at h
  refine HCall.of_run at_.at_ body ?_
  show HRun Tryd.prog base W0 β0 10 none [.code c0] ⟨[(.str x0), τ, τ, τ, τ, τ, τ, τ, τ, τ, τ, τ], []⟩ S _
  refine q_seq rfl ?_
  refine q_region rfl rfl ?_
  obtain ⟨p1, hp1, h⟩ := leto h
  refine qS 1 rfl (ok_box_e · (.tmp rfl) (Nat.zero_lt_succ _) rfl hp1) ?_
  obtain ⟨p2, hp2, h⟩ := leto h
  refine qS 2 rfl (ok_alloc_e · zi3 zr3 (by decide) rfl hp2) ?_
  refine hr_region_end ?_
  try dsimp only [w0, w1, w2, w3]
  refine q_seq rfl ?_
  refine q_seq rfl ?_
  refine q_region rfl rfl ?_
  obtain ⟨p3, hp3, h⟩ := bindo h
  refine q_call (dst := some 5) rfl (.func _) Evs.nil (HInv.static caps_All.at_ caps_All.body (caps_All.snd  hp3)) ?_
  rintro _ _ ⟨rfl, rfl⟩
  refine hr_region_end ?_
  try dsimp only [w0, w1, w2, w3]
  refine q_block rfl ?_
  obtain ⟨p14, hp14, h⟩ := bindo h
  obtain ⟨p15, hp15, h⟩ := bindo h
  obtain ⟨n16, hn16, h⟩ := bindo h
  refine q_range (D := D) (H := H) rfl (.tmp rfl) hD hH hp14 hp15 ?_ ?_
  · intro β1 hle hLA vs T u T' hr
    obtain ⟨u13, hu13, hr⟩ := bindo hr
    obtain ⟨ar10, har10, hr⟩ := bindo hr
    obtain ⟨p11, hp11, hr⟩ := bindo hr
    obtain ⟨p12, hp12, hr⟩ := bindo hr
    rw [args2_out har10]
    refine q_yield2 hLA hu13 rfl rfl ?_
    rw [dS_out hp11, dI_out hp12]
    simp only [HAct.params, List.set_cons_zero, List.set_cons_succ]
    exact J0_snd hD (hH.up hle) hr
  · rcases ifc h with ⟨hc17, h⟩ | ⟨hc17, h⟩
    · rw [pcode0 hn16 hc17]
      simp only [jumped_none, jumped_some]
      refine hr_inBlock ?_
      refine q_seq rfl ?_
      refine q_region rfl rfl ?_
      obtain ⟨p18, hp18, h⟩ := bindo h
      refine qN rfl (ok_store_s (v := (.int .i64 0)) · sz3 (.tmp rfl) rfl (.int _ _) rfl hp18) ?_
      refine hr_region_end ?_
      try dsimp only [w0, w1, w2, w3]
      obtain ⟨p19, hp19, h⟩ := bindo h
      obtain ⟨p20, hp20, h⟩ := bindo h
      cases h
      exact q_ret rfl at_.at_ hp19 (resL1 rfl (.cell rfl rfl sc3 (ldI_out hp20))) ⟨rfl, rfl⟩
    · rcases ifc h with ⟨hc21, h⟩ | ⟨hc21, h⟩
      · rw [pcode1 hn16 hc21]
        simp only [jumped_none, jumped_some]
        obtain ⟨p22, hp22, h⟩ := bindo h
        obtain ⟨p23, hp23, h⟩ := bindo h
        cases h
        exact q_ret rfl at_.at_ hp22 (resL1 rfl (.cell rfl rfl sc3 (ldI_out hp23))) ⟨rfl, rfl⟩
      · cases h
end
end caps_Number
namespace caps_Apply
theorem at_ : FnAt Tryd.prog 7 Tryd.f7 := ⟨Tryd.func7, by kernel_rfl⟩
noncomputable def d0 := (Tryd.f7.body).getD .skip
noncomputable def r1 := kR (kA d0)
noncomputable def r4 := kR (kA (kA (kB d0)))
noncomputable def d5 := kB (kA (kB d0))
noncomputable def r9 := kR (kA (kA (kB d5)))
noncomputable def d10 := kB (kA (kB d5))
noncomputable def r13 := kR (kA (kA (kA d10)))
noncomputable def d14 := kB (kA (kA d10))
noncomputable def d20 := kA (kA (kB d14))
noncomputable def r21 := kR (kA d20)
noncomputable def r24 := kR (kA (kA (kB d20)))
noncomputable def r29 := kR (kA (kB (kB d20)))
noncomputable def d30 := kB (kB (kB d20))
noncomputable def r31 := kR (kA d30)
noncomputable def r34 := kR (kA (kA (kB d30)))
noncomputable def d35 := kB (kA (kB d30))
noncomputable def r37 := kR (kA (kA d35))
noncomputable def r40 := kR (kA (kB d35))
noncomputable def r42 := kR (kA (kB (kB d35)))
noncomputable def r43 := kR (kB (kB (kB d35)))
noncomputable def r44 := kR (kB (kB d14))
noncomputable def r46 := kR (kA (kB (kB d5)))
noncomputable def c45 : Code := .seq (.region 14 r46 false) .ret
noncomputable def c44 : Code := .region 13 r44 false
noncomputable def c12 : Code := .seq (.region 3 r13 false) (.seq (.cond (.tmp 17) .skip (.exit 0)) (.seq (.block 1 (.seq (.region 4 r21 false) (.seq (.seq (.region 5 r24 false) (.cond (.tmp 21) (.exit 1) .skip)) (.seq (.region 6 r29 false) (.seq (.region 7 r31 false) (.block 2 (.seq (.region 9 r34 false) (.cond (.tmp 32) (.seq (.region 10 r37 false) .ret) (.seq (.region 11 r40 false) (.cond (.tmp 36) (.region 12 r42 false) (.region 8 r43 false))))))))))) c44))
noncomputable def c3 : Code := .seq (.region 1 r4 false) (.seq (.label 0) (.seq (.seq (.region 2 r9 false) (.block 0 (.loop c12))) c45))
noncomputable def c0 : Code := .seq (.region 0 r1 false) (.scope c3)
theorem body : Tryd.f7.body = some c0 := by kernel_rfl
section
variable {base : Nat} {W0 : World} {β0 : Bt}
def J1 (D : Dp) (H : Hd) (k : Nat) (rec0 : Int → Int → Sl → Int → Int → HS → Option ((Int × Bool) × HS)) (y0 : Int) (y6 : Int) (y14 : Sl) (y15 : Int) (y16 : Int) (S : HS) : Option ((Int × Bool) × HS) :=
  rec0 y0 y6 y14 y15 (w64 (y16 + 1)) S
theorem J1_snd {D : Dp} {H : Hd} {k : Nat} {rec0 : Int → Int → Sl → Int → Int → HS → Option ((Int × Bool) × HS)} (hD : DSound Tryd.prog base W0 D) (hH : HSound Tryd.prog base W0 β0 H) (hrec0 : ∀ ⦃y0 : Int⦄ ⦃y6 : Int⦄ ⦃y14 : Sl⦄ ⦃y15 : Int⦄ ⦃y16 : Int⦄ ⦃S : HS⦄ ⦃p : (Int × Bool) × HS⦄ ⦃g1 g2 g3 g4 g5 g7 g8 g9 g10 g11 g12 g13 g17 g18 g19 g20 g21 g22 g23 g24 g25 g26 g27 g28 g29 g30 g31 g32 g33 g34 g35 g36 g37 g38 g39 g40 g41 g42 : HV⦄, rec0 y0 y6 y14 y15 y16 S = some p → HRun Tryd.prog base W0 β0 7 none [.inLoop c12, .inBlock 0, .code c45, .inScope c3] ⟨[(.int .i64 y0), g1, g2, g3, g4, g5, (.int .i64 y6), g7, g8, g9, g10, g11, g12, g13, (Sl.hv y14), (.int .i64 y15), (.int .i64 y16), g17, g18, g19, g20, g21, g22, g23, g24, g25, g26, g27, g28, g29, g30, g31, g32, g33, g34, g35, g36, g37, g38, g39, g40, g41, g42], []⟩ S (fun v S1 => v = (.tup [(.int .i64 p.1.1), (.bool p.1.2)]) ∧ S1 = p.2)) {y0 : Int} {y6 : Int} {y14 : Sl} {y15 : Int} {y16 : Int} {S : HS} {p : (Int × Bool) × HS} {g1 g2 g3 g4 g5 g7 g8 g9 g10 g11 g12 g13 g17 g18 g19 g20 g21 g22 g23 g24 g25 g26 g27 g28 g29 g30 g31 g32 g33 g34 g35 g36 g37 g38 g39 g40 g41 g42 : HV} (h : J1 D H k rec0 y0 y6 y14 y15 y16 S = some p) : HRun Tryd.prog base W0 β0 7 none [.code c44, .inLoop c12, .inBlock 0, .code c45, .inScope c3] ⟨[(.int .i64 y0), g1, g2, g3, g4, g5, (.int .i64 y6), g7, g8, g9, g10, g11, g12, g13, (Sl.hv y14), (.int .i64 y15), (.int .i64 y16), g17, g18, g19, g20, g21, g22, g23, g24, g25, g26, g27, g28, g29, g30, g31, g32, g33, g34, g35, g36, g37, g38, g39, g40, g41, g42], []⟩ S (fun v S1 => v = (.tup [(.int .i64 p.1.1), (.bool p.1.2)]) ∧ S1 = p.2) := by
  unfold J1 at h
  refine q_region rfl rfl ?_
  refine qS 41 rfl (ok_ibin · (.tmp rfl) (.int _ _) rfl) ?_
  refine qS 16 rfl (ok_move · (.tmp rfl)) ?_
  refine hr_region_end ?_
  try dsimp only [w0, w1, w2, w3]
  try dsimp only [w0, w1, w2, w3]
  exact hrec0 h
def L0 (D : Dp) (H : Hd) (k : Nat) : Nat → Int → Int → Sl → Int → Int → HS → Option ((Int × Bool) × HS)
  | 0, _, _, _, _, _, _ => none
  | n + 1, y0, y6, y14, y15, y16, S =>
    (if y16 < y15 then
    (Option.bind (HS.idx S y14 y16 1) fun p3 =>
    (Option.bind (HS.ldS S p3) fun p4 =>
    (if p4 = ([] : List UInt8) then
    J1 D H k (L0 D H k n) y0 y6 y14 y15 y16 S else
    (Option.bind (strings_CutPrefix.f p4 ([45] : List UInt8)) fun p6 =>
    (Option.bind (caps_Number.f D H p6.1 S) fun p7 =>
    (if p7.1 = 0 then
    some ((y0, false), p7.2) else
    (if p6.2 = true then
    J1 D H k (L0 D H k n) y0 (iandNot .i64 y6 p7.1) y14 y15 y16 p7.2 else
    J1 D H k (L0 D H k n) y0 (ior .i64 y6 p7.1) y14 y15 y16 p7.2))))))) else
    some ((y6, true), S))
theorem L0_snd {D : Dp} {H : Hd} {k : Nat} (hD : DSound Tryd.prog base W0 D) (hH : HSound Tryd.prog base W0 β0 H)  : ∀ {n : Nat} ⦃y0 : Int⦄ ⦃y6 : Int⦄ ⦃y14 : Sl⦄ ⦃y15 : Int⦄ ⦃y16 : Int⦄ ⦃S : HS⦄ ⦃p : (Int × Bool) × HS⦄ ⦃g1 g2 g3 g4 g5 g7 g8 g9 g10 g11 g12 g13 g17 g18 g19 g20 g21 g22 g23 g24 g25 g26 g27 g28 g29 g30 g31 g32 g33 g34 g35 g36 g37 g38 g39 g40 g41 g42 : HV⦄, L0 D H k n y0 y6 y14 y15 y16 S = some p → HRun Tryd.prog base W0 β0 7 none [.inLoop c12, .inBlock 0, .code c45, .inScope c3] ⟨[(.int .i64 y0), g1, g2, g3, g4, g5, (.int .i64 y6), g7, g8, g9, g10, g11, g12, g13, (Sl.hv y14), (.int .i64 y15), (.int .i64 y16), g17, g18, g19, g20, g21, g22, g23, g24, g25, g26, g27, g28, g29, g30, g31, g32, g33, g34, g35, g36, g37, g38, g39, g40, g41, g42], []⟩ S (fun v S1 => v = (.tup [(.int .i64 p.1.1), (.bool p.1.2)]) ∧ S1 = p.2) := by
  intro n
  induction n with
  | zero => intro _ _ _ _ _ _ _ _ _ _ _ _ _ _ _ _ _ _ _ _ _ _ _ _ _ _ _ _ _ _ _ _ _ _ _ _ _ _ _ _ _ _ _ _ _ h; cases h
  | succ n ih =>
    intro y0 y6 y14 y15 y16 S p g1 g2 g3 g4 g5 g7 g8 g9 g10 g11 g12 g13 g17 g18 g19 g20 g21 g22 g23 g24 g25 g26 g27 g28 g29 g30 g31 g32 g33 g34 g35 g36 g37 g38 g39 g40 g41 g42 h
    simp only [L0] at h
    refine hr_inLoop ?_
    refine q_seq rfl ?_
    refine q_region rfl rfl ?_
    refine qS 17 rfl (ok_ibin · (.tmp rfl) (.tmp rfl) rfl) ?_
    refine hr_region_end ?_
    try dsimp only [w0, w1, w2, w3]
    refine q_seq rfl ?_
    rcases ifc h with ⟨hc2, h⟩ | ⟨hc2, h⟩
    · refine q_cond_t rfl (.tmp rfl) (decide_eq_true hc2) ?_
      refine q_skipc rfl ?_
      refine q_seq rfl ?_
      refine q_block rfl ?_
      refine q_seq rfl ?_
      refine q_region rfl rfl ?_
      obtain ⟨p3, hp3, h⟩ := bindo h
      refine qS 18 rfl (ok_indexAddr (s := y14) · tu33 sz9 (.tmp rfl) (.tmp rfl) hp3) ?_
      obtain ⟨p4, hp4, h⟩ := bindo h
      refine qS 19 rfl (ok_load_s · sc9 (.tmp rfl) rfl (ldS_out hp4)) ?_
      refine qS 8 rfl (ok_assign · (.tmp rfl)) ?_
      refine hr_region_end ?_
      try dsimp only [w0, w1, w2, w3]
      refine q_seq rfl ?_
      refine q_seq rfl ?_
      refine q_region rfl rfl ?_
      refine qS 20 rfl (ok_move · (.tmp rfl)) ?_
      refine qS 21 rfl (ok_sbin · (.tmp rfl) (.str _) rfl) ?_
      refine hr_region_end ?_
      try dsimp only [w0, w1, w2, w3]
      rcases ifc h with ⟨hc5, h⟩ | ⟨hc5, h⟩
      · refine q_cond_t rfl (.tmp rfl) (decide_eq_true hc5) ?_
        refine q_exit rfl rfl ?_
        try dsimp only [w0, w1, w2, w3]
        exact J1_snd hD hH ih h
      · refine q_cond_f rfl (.tmp rfl) (decide_eq_false hc5) ?_
        refine q_skipc rfl ?_
        refine q_seq rfl ?_
        refine q_region rfl rfl ?_
        refine qS 23 rfl (ok_move · (.tmp rfl)) ?_
        obtain ⟨p6, hp6, h⟩ := bindo h
        refine q_call (dst := some 24) rfl (.func _) (.cons (.tmp rfl) (.cons (.str _) Evs.nil)) (HInv.static strings_CutPrefix.at_ strings_CutPrefix.body (strings_CutPrefix.snd  hp6)) ?_
        rintro _ _ ⟨rfl, rfl⟩
        refine qS 22 rfl (ok_move · (.tmp rfl)) ?_
        refine qS 25 rfl (ok_extract · (.tmp rfl) rfl) ?_
        try dsimp only [w0, w1, w2, w3]
        refine qS 26 rfl (ok_extract · (.tmp rfl) rfl) ?_
        refine qS 9 rfl (ok_assign · (.tmp rfl)) ?_
        refine qS 10 rfl (ok_assign · (.tmp rfl)) ?_
        refine hr_region_end ?_
        try dsimp only [w0, w1, w2, w3]
        refine q_seq rfl ?_
        refine q_region rfl rfl ?_
        refine qS 27 rfl (ok_move · (.tmp rfl)) ?_
        obtain ⟨p7, hp7, h⟩ := bindo h
        refine q_call (dst := some 28) rfl (.func _) (.cons (.tmp rfl) Evs.nil) (HInv.static caps_Number.at_ caps_Number.body (caps_Number.snd hD hH hp7)) ?_
        rintro _ _ ⟨rfl, rfl⟩
        refine qS 11 rfl (ok_assign · (.tmp rfl)) ?_
        refine hr_region_end ?_
        try dsimp only [w0, w1, w2, w3]
        refine q_block rfl ?_
        refine q_seq rfl ?_
        refine q_region rfl rfl ?_
        refine qS 33 rfl (ok_move · (.tmp rfl)) ?_
        refine qS 34 rfl (ok_ibin · (.tmp rfl) (.int _ _) rfl) ?_
        refine qS 32 rfl (ok_assign · (.tmp rfl)) ?_
        refine hr_region_end ?_
        try dsimp only [w0, w1, w2, w3]
        rcases ifc h with ⟨hc8, h⟩ | ⟨hc8, h⟩
        · refine q_cond_t rfl (.tmp rfl) (decide_eq_true hc8) ?_
          refine q_seq rfl ?_
          refine q_region rfl rfl ?_
          refine qS 35 rfl (ok_move · (.tmp rfl)) ?_
          refine qS 4 rfl (ok_assign · (.tmp rfl)) ?_
          refine qS 5 rfl (ok_assign · (.bool _)) ?_
          refine hr_region_end ?_
          try dsimp only [w0, w1, w2, w3]
          cases h
          exact q_ret rfl at_.at_ rfl (res2 rfl rfl rfl) ⟨rfl, rfl⟩
        · refine q_cond_f rfl (.tmp rfl) (decide_eq_false hc8) ?_
          refine q_seq rfl ?_
          refine q_region rfl rfl ?_
          refine qS 37 rfl (ok_move · (.tmp rfl)) ?_
          refine qS 36 rfl (ok_assign · (.tmp rfl)) ?_
          refine hr_region_end ?_
          try dsimp only [w0, w1, w2, w3]
          rcases ifc h with ⟨hc9, h⟩ | ⟨hc9, h⟩
          · refine q_cond_t rfl (.tmp rfl) hc9 ?_
            refine q_region rfl rfl ?_
            refine qS 38 rfl (ok_move · (.tmp rfl)) ?_
            refine qS 39 rfl (ok_move · (.tmp rfl)) ?_
            refine qS 40 rfl (ok_ibin · (.tmp rfl) (.tmp rfl) rfl) ?_
            refine qS 6 rfl (ok_assign · (.tmp rfl)) ?_
            refine hr_region_end ?_
            try dsimp only [w0, w1, w2, w3]
            refine hr_inBlock ?_
            refine hr_inBlock ?_
            try dsimp only [w0, w1, w2, w3]
            exact J1_snd hD hH ih h
          · refine q_cond_f rfl (.tmp rfl) (bfalse hc9) ?_
            refine q_region rfl rfl ?_
            refine qS 29 rfl (ok_move · (.tmp rfl)) ?_
            refine qS 30 rfl (ok_move · (.tmp rfl)) ?_
            refine qS 31 rfl (ok_ibin · (.tmp rfl) (.tmp rfl) rfl) ?_
            refine qS 6 rfl (ok_assign · (.tmp rfl)) ?_
            refine hr_region_end ?_
            try dsimp only [w0, w1, w2, w3]
            refine hr_inBlock ?_
            refine hr_inBlock ?_
            try dsimp only [w0, w1, w2, w3]
            exact J1_snd hD hH ih h
    · refine q_cond_f rfl (.tmp rfl) (decide_eq_false hc2) ?_
      refine q_exit rfl rfl ?_
      refine q_seq rfl ?_
      refine q_region rfl rfl ?_
      refine qS 42 rfl (ok_move · (.tmp rfl)) ?_
      refine qS 4 rfl (ok_assign · (.tmp rfl)) ?_
      refine qS 5 rfl (ok_assign · (.bool _)) ?_
      refine hr_region_end ?_
      try dsimp only [w0, w1, w2, w3]
      cases h
      exact q_ret rfl at_.at_ rfl (res2 rfl rfl rfl) ⟨rfl, rfl⟩
def f (D : Dp) (H : Hd) (k : Nat) (x0 : Int) (x1 : (List UInt8)) (S : HS) : Option ((Int × Bool) × HS) :=
  (Option.bind (strings_Split.f k x1 ([32] : List UInt8) S) fun p1 =>
  L0 D H k k x0 x0 p1.1 (Sl.len p1.1 : Int) 0 p1.2)
theorem snd {D : Dp} {H : Hd} {k : Nat} {x0 : Int} {x1 : (List UInt8)} {S : HS} (hD : DSound Tryd.prog base W0 D) (hH : HSound Tryd.prog base W0 β0 H)  {p : (Int × Bool) × HS} (h : f D H k x0 x1 S = some p) : HCall Tryd.prog base W0 β0 7 [(.int .i64 x0), (.str x1)] S (fun v S1 => v = (.tup [(.int .i64 p.1.1), (.bool p.1.2)]) ∧ S1 = p.2) := by
  unfold f at h
  refine HCall.of_run at_.at_ body ?_
  show HRun Tryd.prog base W0 β0 7 none [.code c0] ⟨[(.int .i64 x0), (.str x1), τ, τ, τ, τ, τ, τ, τ, τ, τ, τ, τ, τ, τ, τ, τ, τ, τ, τ, τ, τ, τ, τ, τ, τ, τ, τ, τ, τ, τ, τ, τ, τ, τ, τ, τ, τ, τ, τ, τ, τ, τ], []⟩ S _
  refine q_seq rfl ?_
  refine q_region rfl rfl ?_
  refine qS 4 rfl (ok_assign · (.int _ _)) ?_
  refine qS 5 rfl (ok_assign · (.bool _)) ?_
  refine hr_region_end ?_
  try dsimp only [w0, w1, w2, w3]
  refine q_scope rfl ?_
  refine q_seq rfl ?_
  refine q_region rfl rfl ?_
  refine qS 12 rfl (ok_move · (.tmp rfl)) ?_
  refine qS 6 rfl (ok_assign · (.tmp rfl)) ?_
  refine hr_region_end ?_
  try dsimp only [w0, w1, w2, w3]
  refine q_seq rfl ?_
  refine q_label rfl ?_
  refine q_seq rfl ?_
  refine q_seq rfl ?_
  refine q_region rfl rfl ?_
  refine qS 13 rfl (ok_move · (.tmp rfl)) ?_
  obtain ⟨p1, hp1, h⟩ := bindo h
  refine q_call (dst := some 14) rfl (.func _) (.cons (.tmp rfl) (.cons (.str _) Evs.nil)) (HInv.static strings_Split.at_ strings_Split.body (strings_Split.snd  hp1)) ?_
  rintro _ _ ⟨rfl, rfl⟩
  refine qS 15 rfl (ok_len_sl (q := Sl.a p1.1) (n := Sl.len p1.1) (z := Sl.cap p1.1) · rfl tu33 (.tmp rfl)) ?_
  refine qS 16 rfl (ok_move · (.int _ _)) ?_
  refine hr_region_end ?_
  try dsimp only [w0, w1, w2, w3]
  refine q_block rfl ?_
  refine q_loop rfl ?_
  try dsimp only [w0, w1, w2, w3]
  exact L0_snd hD hH h
end
end caps_Apply
namespace rollcalllaw12_awake
theorem at_ : FnAt Tryd.prog 6 Tryd.f6 := ⟨Tryd.func6, by kernel_rfl⟩
noncomputable def d0 := (Tryd.f6.body).getD .skip
noncomputable def r1 := kR (kA d0)
noncomputable def r3 := kR (kA (kB d0))
noncomputable def r5 := kR (kA (kB (kB d0)))
noncomputable def c6 : Code := .ret
noncomputable def c0 : Code := .seq (.region 0 r1 false) (.seq (.region 1 r3 false) (.seq (.region 2 r5 false) c6))
theorem body : Tryd.f6.body = some c0 := by kernel_rfl
section
variable {base : Nat} {W0 : World} {β0 : Bt}
def J0 (D : Dp) (H : Hd) (k : Nat) (y11 : Bool) (S : HS) : Option ((Bool) × HS) :=
  some (y11, S)
theorem J0_snd {D : Dp} {H : Hd} {k : Nat} (hD : DSound Tryd.prog base W0 D) (hH : HSound Tryd.prog base W0 β0 H)  {y11 : Bool} {S : HS} {p : (Bool) × HS} {g0 g1 g2 g3 g4 g5 g6 g7 g8 g9 g10 : HV} (h : J0 D H k y11 S = some p) : HRun Tryd.prog base W0 β0 6 none [.inRegion r5 [5], .code c6] ⟨[g0, g1, g2, g3, g4, g5, g6, g7, g8, g9, g10, (.bool y11)], []⟩ S (fun v S1 => v = (.bool p.1) ∧ S1 = p.2) := by
  unfold J0 at h
  refine qS 0 rfl (ok_assign · (.tmp rfl)) ?_
  refine hr_region_end ?_
  try dsimp only [w0, w1, w2, w3]
  cases h
  exact q_ret rfl at_.at_ rfl (res1 rfl rfl) ⟨rfl, rfl⟩
def f (D : Dp) (H : Hd) (k : Nat) (S : HS) : Option ((Bool) × HS) :=
  (Option.bind (caps_Apply.f D H k 2 ([97, 119, 97, 121, 45, 110, 111, 116, 105, 102, 121, 32, 45, 101, 99, 104, 111, 45, 109, 101, 115, 115, 97, 103, 101] : List UInt8) S) fun p1 =>
  (if p1.1.1 = 1 then
  J0 D H k p1.1.2 p1.2 else
  J0 D H k false p1.2))
theorem snd {D : Dp} {H : Hd} {k : Nat} {S : HS} (hD : DSound Tryd.prog base W0 D) (hH : HSound Tryd.prog base W0 β0 H)  {p : (Bool) × HS} (h : f D H k S = some p) : HCall Tryd.prog base W0 β0 6 [] S (fun v S1 => v = (.bool p.1) ∧ S1 = p.2) := by
  unfold f at h
  refine HCall.of_run at_.at_ body ?_
  show HRun Tryd.prog base W0 β0 6 none [.code c0] ⟨[τ, τ, τ, τ, τ, τ, τ, τ, τ, τ, τ, τ], []⟩ S _
  refine q_seq rfl ?_
  refine q_region rfl rfl ?_
  refine qS 0 rfl (ok_assign · (.bool _)) ?_
  refine hr_region_end ?_
  try dsimp only [w0, w1, w2, w3]
  refine q_seq rfl ?_
  refine q_region rfl rfl ?_
  obtain ⟨p1, hp1, h⟩ := bindo h
  refine q_call (dst := some 4) rfl (.func _) (.cons (.int _ _) (.cons (.str _) Evs.nil)) (HInv.static caps_Apply.at_ caps_Apply.body (caps_Apply.snd hD hH hp1)) ?_
  rintro _ _ ⟨rfl, rfl⟩
  refine qS 3 rfl (ok_move · (.tmp rfl)) ?_
  refine qS 5 rfl (ok_extract · (.tmp rfl) rfl) ?_
  refine qS 6 rfl (ok_extract · (.tmp rfl) rfl) ?_
  try dsimp only [w0, w1, w2, w3]
  refine qS 1 rfl (ok_assign · (.tmp rfl)) ?_
  refine qS 2 rfl (ok_assign · (.tmp rfl)) ?_
  refine hr_region_end ?_
  try dsimp only [w0, w1, w2, w3]
  refine q_seq rfl ?_
  refine q_region rfl rfl ?_
  refine qS 7 rfl (ok_move · (.tmp rfl)) ?_
  refine qS 8 rfl (ok_ibin · (.tmp rfl) (.int _ _) rfl) ?_
  refine qS 9 rfl (ok_move · (.tmp rfl)) ?_
  rcases ifc h with ⟨hc2, h⟩ | ⟨hc2, h⟩
  · refine qG 9 10 rfl (decide_eq_true hc2) (ok_move · (.tmp rfl)) ?_
    try dsimp only [w0, w1, w2, w3]
    refine qS 11 rfl (ok_pick_tt · (.tmp rfl) (decide_eq_true hc2) (.tmp rfl)) ?_
    try dsimp only [w0, w1, w2, w3]
    exact J0_snd hD hH h
  · refine q_skip (dst := some 10) (t := 9) rfl rfl rfl (decide_eq_false hc2) ?_
    try dsimp only [w0, w1, w2, w3]
    refine qS 11 rfl (ok_pick_ff · (.tmp rfl) (decide_eq_false hc2) (.bool _)) ?_
    try dsimp only [w0, w1, w2, w3]
    exact J0_snd hD hH h
end
end rollcalllaw12_awake
namespace caps_Text
theorem at_ : FnAt Tryd.prog 9 Tryd.f9 := ⟨Tryd.func9, by kernel_rfl⟩
noncomputable def d0 := (Tryd.f9.body).getD .skip
noncomputable def r1 := kR (kA d0)
noncomputable def r3 := kR (kA (kB d0))
noncomputable def d5 := kA (kB (kB d0))
noncomputable def r6 := kR (kA d5)
noncomputable def r10 := kR (kA (kA (kA (kB d5))))
noncomputable def r11 := kR (kB (kA (kA (kB d5))))
noncomputable def r14 := kR (kA (kA (kB (kA (kB d5)))))
noncomputable def r16 := kR (kA (kB (kA (kB (kA (kB d5))))))
noncomputable def r19 := kR (kA (kB (kB (kB d0))))
noncomputable def c12 : Code := .block 1 (.seq (.region 5 r14 false) (.cond (.tmp 12) (.region 6 r16 false) .skip))
noncomputable def c9 : Code := .seq (.region 3 r10 false) (.region 4 r11 false)
noncomputable def c0 : Code := .seq (.region 0 r1 false) (.seq (.region 1 r3 false) (.seq (.seq (.region 2 r6 false) (.block 0 (.rangeFunc (.tmp 6) #[7, 8] c9 c12))) (.seq (.region 7 r19 false) .ret)))
theorem body : Tryd.f9.body = some c0 := by kernel_rfl
section
variable {base : Nat} {W0 : World} {β0 : Bt}
def J1 (D : Dp) (H : Hd) (l : Nat) (S : HS) : Option (HV × HS) :=
  (HS.endr S l none)
theorem J1_snd {D : Dp} {H : Hd} {l : Nat} (hD : DSound Tryd.prog base W0 D) (hH : HSound Tryd.prog base W0 β0 H)  {S : HS} {p : HV × HS} {g0 g1 g2 g3 g4 g5 g6 g7 g8 g9 g10 g11 g12 g13 g14 g15 g16 g17 g18 : HV} (h : J1 D H l S = some p) : HRun Tryd.prog base W0 β0 9 (some l) [] ⟨[g0, g1, g2, g3, g4, g5, g6, g7, g8, g9, g10, g11, g12, g13, g14, g15, g16, g17, g18], []⟩ S (fun v S1 => v = p.1 ∧ S1 = p.2) := by
  unfold J1 at h
  exact q_round_end h ⟨rfl, rfl⟩
def J0 (D : Dp) (H : Hd) (l : Nat) (y1 : (Option HA)) (y3 : (Option HA)) (y7 : (List UInt8)) (y8 : Int) (S : HS) : Option (HV × HS) :=
  (Option.bind (HS.begin_ S l) fun p4 =>
  (Option.bind (y1) fun p5 =>
  (Option.bind (HS.ldI p4 .i64 p5) fun p6 =>
  (if (!decide ((iand .i64 p6 y8) = 0)) = true then
  (Option.bind (y3) fun p8 =>
  (Option.bind (HS.ldSl p4 p8) fun p9 =>
  (letv (HS.lit p4 [[(.str y7)]] 1) fun p10 =>
  (Option.bind (HS.rows (p10.2) (p10.1) 1) fun p11 =>
  (Option.bind (HS.app (p10.2) p9 p11 1) fun p12 =>
  (Option.bind (y3) fun p13 =>
  (Option.bind (HS.sets (p12.2) p13 [(Sl.hv (p12.1))]) fun p14 =>
  J1 D H l p14))))))) else
  J1 D H l p4))))
theorem J0_snd {D : Dp} {H : Hd} {l : Nat} (hD : DSound Tryd.prog base W0 D) (hH : HSound Tryd.prog base W0 β0 H)  {y1 : (Option HA)} {y3 : (Option HA)} {y7 : (List UInt8)} {y8 : Int} {S : HS} {p : HV × HS} {g0 g2 g4 g5 g6 g9 g10 g11 g12 g13 g14 g15 g16 g17 g18 : HV} (h : J0 D H l y1 y3 y7 y8 S = some p) : HRun Tryd.prog base W0 β0 9 (some l) [.code c9, .beginRound, .code c12] ⟨[g0, (.ptr y1), g2, (.ptr y3), g4, g5, g6, (.str y7), (.int .i64 y8), g9, g10, g11, g12, g13, g14, g15, g16, g17, g18], []⟩ S (fun v S1 => v = p.1 ∧ S1 = p.2) := by
  unfold J0 at h
  refine q_seq rfl ?_
  refine q_region rfl rfl ?_
  refine qS 4 rfl (ok_assign · (.tmp rfl)) ?_
  refine hr_region_end ?_
  try dsimp only [w0, w1, w2, w3]
  refine q_region rfl rfl ?_
  refine qS 5 rfl (ok_assign · (.tmp rfl)) ?_
  refine hr_region_end ?_
  try dsimp only [w0, w1, w2, w3]
  obtain ⟨p4, hp4, h⟩ := bindo h
  refine q_begin hp4 ?_
  refine q_block rfl ?_
  refine q_seq rfl ?_
  refine q_region rfl rfl ?_
  obtain ⟨p5, hp5, h⟩ := bindo h
  obtain ⟨p6, hp6, h⟩ := bindo h
  refine qS 9 rfl (ok_load_s · sc3 (.tmp rfl) hp5 (ldI_out hp6)) ?_
  refine qS 10 rfl (ok_move · (.tmp rfl)) ?_
  refine qS 11 rfl (ok_ibin · (.tmp rfl) (.tmp rfl) rfl) ?_
  refine qS 12 rfl (ok_ibin · (.tmp rfl) (.int _ _) rfl) ?_
  refine hr_region_end ?_
  try dsimp only [w0, w1, w2, w3]
  rcases ifc h with ⟨hc7, h⟩ | ⟨hc7, h⟩
  · refine q_cond_t rfl (.tmp rfl) hc7 ?_
    refine q_region rfl rfl ?_
    obtain ⟨p8, hp8, h⟩ := bindo h
    obtain ⟨p9, hp9, h⟩ := bindo h
    refine qS 13 rfl (ok_load_s · sc33 (.tmp rfl) hp8 (ldSl_out hp9)) ?_
    refine qS 14 rfl (ok_move · (.tmp rfl)) ?_
    obtain ⟨p10, hp10, h⟩ := leto h
    refine qS 15 rfl (ok_buildSlice_s (xs := [(.tmp 14)]) el33 · rfl rfl (by decide) (.cons (.tmp rfl) Evs.nil) rfl rfl hp10) ?_
    obtain ⟨p11, hp11, h⟩ := bindo h
    obtain ⟨p12, hp12, h⟩ := bindo h
    refine qS 16 rfl (ok_append (s := p9) (s1 := (p10.1)) el33 · rfl rfl ⟨_, tu33⟩ (.tmp rfl) (.tmp rfl) hp11 hp12) ?_
    try dsimp only [w0, w1, w2, w3]
    obtain ⟨p13, hp13, h⟩ := bindo h
    obtain ⟨p14, hp14, h⟩ := bindo h
    refine qN rfl (ok_store_s (v := (Sl.hv (p12.1))) · sz33 (.tmp rfl) hp13 (.tmp rfl) rfl hp14) ?_
    refine hr_region_end ?_
    try dsimp only [w0, w1, w2, w3]
    refine hr_inBlock ?_
    try dsimp only [w0, w1, w2, w3]
    exact J1_snd hD hH h
  · refine q_cond_f rfl (.tmp rfl) (bfalse hc7) ?_
    refine q_skipc rfl ?_
    refine hr_inBlock ?_
    try dsimp only [w0, w1, w2, w3]
    exact J1_snd hD hH h
def f (D : Dp) (H : Hd) (x0 : Int) (S : HS) : Option (((List UInt8)) × HS) :=
  (letv (HS.new S (.cells 1 [[(.int .i64 x0)]] true)) fun p1 =>
  (letv (HS.new p1 (.cells 1 [[(Sl.hv Sl.nil)]] true)) fun p2 =>
  (Option.bind (caps_All.f ) fun p3 =>
  (Option.bind (D (Hd.set H (HS.next p2 + 1) fun vs T =>
  (Option.bind (HS.lp T (HS.next p2 + 1)) fun u18 =>
  (Option.bind (args2 vs) fun ar15 =>
  (Option.bind (dS ar15.1) fun p16 =>
  (Option.bind (dI .i64 ar15.2) fun p17 =>
  (J0 D H (HS.next p2 + 1) (some (HA.cell0 S.next)) (some (HA.cell0 p1.next)) p16 p17 T)))))) p3 [.fn (.yield (HS.next p2 + 1)) [] []] (HS.new (HS.new p2 .defer) (.loop .ready none))) fun p19 =>
  (Option.bind (HS.finish p19.2 (HS.next p2 + 1)) fun p20 =>
  (Option.bind (pcode p20.1) fun n21 =>
  (if n21 = 0 then
  (Option.bind (HS.ldSl p20.2 (HA.cell0 p1.next)) fun p23 =>
  (Option.bind (strings_Join.f p23 ([32] : List UInt8) p20.2) fun p24 =>
  (Option.bind (HS.leave p24.2 (HS.next p2 :: [])) fun p25 =>
  some (p24.1, p25)))) else
  none)))))))
theorem snd {D : Dp} {H : Hd} {x0 : Int} {S : HS} (hD : DSound Tryd.prog base W0 D) (hH : HSound Tryd.prog base W0 β0 H)  {p : ((List UInt8)) × HS} (h : f D H x0 S = some p) : HCall Tryd.prog base W0 β0 9 [(.int .i64 x0)] S (fun v S1 => v = (.str p.1) ∧ S1 = p.2) := by
  unfold f at h
  refine HCall.of_run at_.at_ body ?_
  show HRun Tryd.prog base W0 β0 9 none [.code c0] ⟨[(.int .i64 x0), τ, τ, τ, τ, τ, τ, τ, τ, τ, τ, τ, τ, τ, τ, τ, τ, τ, τ], []⟩ S _
  refine q_seq rfl ?_
  refine q_region rfl rfl ?_
  obtain ⟨p1, hp1, h⟩ := leto h
  refine qS 1 rfl (ok_box_e · (.tmp rfl) (Nat.zero_lt_succ _) rfl hp1) ?_
  refine qS 2 rfl (ok_assign · (.str _)) ?_
  refine hr_region_end ?_
  try dsimp only [w0, w1, w2, w3]
  refine q_seq rfl ?_
  refine q_region rfl rfl ?_
  obtain ⟨p2, hp2, h⟩ := leto h
  refine qS 3 rfl (ok_alloc_e · zi33 zr33 (by decide) rfl hp2) ?_
  refine hr_region_end ?_
  try dsimp only [w0, w1, w2, w3]
  refine q_seq rfl ?_
  refine q_seq rfl ?_
  refine q_region rfl rfl ?_
  obtain ⟨p3, hp3, h⟩ := bindo h
  refine q_call (dst := some 6) rfl (.func _) Evs.nil (HInv.static caps_All.at_ caps_All.body (caps_All.snd  hp3)) ?_
  rintro _ _ ⟨rfl, rfl⟩
  refine hr_region_end ?_
  try dsimp only [w0, w1, w2, w3]
  refine q_block rfl ?_
  obtain ⟨p19, hp19, h⟩ := bindo h
  obtain ⟨p20, hp20, h⟩ := bindo h
  obtain ⟨n21, hn21, h⟩ := bindo h
  refine q_range (D := D) (H := H) rfl (.tmp rfl) hD hH hp19 hp20 ?_ ?_
  · intro β1 hle hLA vs T u T' hr
    obtain ⟨u18, hu18, hr⟩ := bindo hr
    obtain ⟨ar15, har15, hr⟩ := bindo hr
    obtain ⟨p16, hp16, hr⟩ := bindo hr
    obtain ⟨p17, hp17, hr⟩ := bindo hr
    rw [args2_out har15]
    refine q_yield2 hLA hu18 rfl rfl ?_
    rw [dS_out hp16, dI_out hp17]
    simp only [HAct.params, List.set_cons_zero, List.set_cons_succ]
    exact J0_snd hD (hH.up hle) hr
  · rcases ifc h with ⟨hc22, h⟩ | ⟨hc22, h⟩
    · rw [pcode0 hn21 hc22]
      simp only [jumped_none, jumped_some]
      refine hr_inBlock ?_
      refine q_seq rfl ?_
      refine q_region rfl rfl ?_
      obtain ⟨p23, hp23, h⟩ := bindo h
      refine qS 17 rfl (ok_load_s · sc33 (.tmp rfl) rfl (ldSl_out hp23)) ?_
      obtain ⟨p24, hp24, h⟩ := bindo h
      refine q_call (dst := some 18) rfl (.func _) (.cons (.tmp rfl) (.cons (.str _) Evs.nil)) (HInv.static strings_Join.at_ strings_Join.body (strings_Join.snd  hp24)) ?_
      rintro _ _ ⟨rfl, rfl⟩
      refine qS 2 rfl (ok_assign · (.tmp rfl)) ?_
      refine hr_region_end ?_
      try dsimp only [w0, w1, w2, w3]
      obtain ⟨p25, hp25, h⟩ := bindo h
      cases h
      exact q_ret rfl at_.at_ hp25 (res1 rfl rfl) ⟨rfl, rfl⟩
    · cases h
end
end caps_Text
namespace rollcallref12_names
theorem at_ : FnAt Tryd.prog 19 Tryd.f19 := ⟨Tryd.func19, by kernel_rfl⟩
noncomputable def d0 := (Tryd.f19.body).getD .skip
noncomputable def r1 := kR (kA d0)
noncomputable def r3 := kR (kA (kB d0))
noncomputable def c0 : Code := .seq (.region 0 r1 false) (.seq (.region 1 r3 false) .ret)
theorem body : Tryd.f19.body = some c0 := by kernel_rfl
section
variable {base : Nat} {W0 : World} {β0 : Bt}
def f (S : HS) : Option (((List UInt8) × (List UInt8) × (List UInt8)) × HS) :=
  (letv (HS.new S (.cells 3 [[(.str []), (.str []), (.str [])]] true)) fun p1 =>
  (Option.bind (HS.sets p1 (HA.cell0 S.next) [(.str ([97, 119, 97, 121, 45, 110, 111, 116, 105, 102, 121] : List UInt8)), (.str ([101, 99, 104, 111, 45, 109, 101, 115, 115, 97, 103, 101] : List UInt8)), (.str ([109, 117, 108, 116, 105, 45, 112, 114, 101, 102, 105, 120] : List UInt8))]) fun p2 =>
  (Option.bind (HS.ldS p2 (HA.fld (HA.cell0 S.next) 0)) fun p3 =>
  (Option.bind (HS.ldS p2 (HA.fld (HA.cell0 S.next) 1)) fun p4 =>
  (Option.bind (HS.ldS p2 (HA.fld (HA.cell0 S.next) 2)) fun p5 =>
  some ((p3, p4, p5), p2))))))
theorem snd {S : HS}  {p : ((List UInt8) × (List UInt8) × (List UInt8)) × HS} (h : f S = some p) : HCall Tryd.prog base W0 β0 19 [] S (fun v S1 => v = (.agg [(.str p.1.1), (.str p.1.2.1), (.str p.1.2.2)]) ∧ S1 = p.2) := by
  unfold f at h
  refine HCall.of_run at_.at_ body ?_
  show HRun Tryd.prog base W0 β0 19 none [.code c0] ⟨[τ, τ], []⟩ S _
  refine q_seq rfl ?_
  refine q_region rfl rfl ?_
  obtain ⟨p1, hp1, h⟩ := leto h
  refine qS 0 rfl (ok_alloc_e · zi38 zr38 (by decide) rfl hp1) ?_
  refine hr_region_end ?_
  try dsimp only [w0, w1, w2, w3]
  refine q_seq rfl ?_
  refine q_region rfl rfl ?_
  refine qS 1 rfl (ok_buildArr (is := [0, 1, 2]) (xs := [(.const (.string ⟨#[97, 119, 97, 121, 45, 110, 111, 116, 105, 102, 121]⟩)), (.const (.string ⟨#[101, 99, 104, 111, 45, 109, 101, 115, 115, 97, 103, 101]⟩)), (.const (.string ⟨#[109, 117, 108, 116, 105, 45, 112, 114, 101, 102, 105, 120]⟩))]) (r := [(.str ([97, 119, 97, 121, 45, 110, 111, 116, 105, 102, 121] : List UInt8)), (.str ([101, 99, 104, 111, 45, 109, 101, 115, 115, 97, 103, 101] : List UInt8)), (.str ([109, 117, 108, 116, 105, 45, 112, 114, 101, 102, 105, 120] : List UInt8))]) ar38 · rfl rfl (.cons (.str _) (.cons (.str _) (.cons (.str _) Evs.nil))) rfl) ?_
  obtain ⟨p2, hp2, h⟩ := bindo h
  refine qN rfl (ok_store_s (v := (.agg [(.str ([97, 119, 97, 121, 45, 110, 111, 116, 105, 102, 121] : List UInt8)), (.str ([101, 99, 104, 111, 45, 109, 101, 115, 115, 97, 103, 101] : List UInt8)), (.str ([109, 117, 108, 116, 105, 45, 112, 114, 101, 102, 105, 120] : List UInt8))])) · sz38 (.tmp rfl) rfl (.tmp rfl) rfl hp2) ?_
  refine hr_region_end ?_
  try dsimp only [w0, w1, w2, w3]
  obtain ⟨p3, hp3, h⟩ := bindo h
  obtain ⟨p4, hp4, h⟩ := bindo h
  obtain ⟨p5, hp5, h⟩ := bindo h
  cases h
  exact q_ret rfl at_.at_ rfl (resL1 rfl (.agg (vs := [(.str p3), (.str p4), (.str p5)]) rfl rfl ia38 ⟨ldS_out hp3, ldS_out hp4, ldS_out hp5, trivial⟩ (by simp))) ⟨rfl, rfl⟩
end
end rollcallref12_names
namespace rollcallref12_Number
theorem at_ : FnAt Tryd.prog 12 Tryd.f12 := ⟨Tryd.func12, by kernel_rfl⟩
noncomputable def d0 := (Tryd.f12.body).getD .skip
noncomputable def r1 := kR (kA d0)
noncomputable def r3 := kR (kA (kB d0))
noncomputable def d5 := kA (kB (kB d0))
noncomputable def r6 := kR (kA d5)
noncomputable def d9 := kA (kA (kB d5))
noncomputable def r11 := kR (kA (kA d9))
noncomputable def r19 := kR (kA (kA (kA (kA (kB d9)))))
noncomputable def r22 := kR (kA (kA (kB (kA (kA (kA (kB d9)))))))
noncomputable def r25 := kR (kB (kA (kA (kB d9))))
noncomputable def r26 := kR (kB (kB d9))
noncomputable def r28 := kR (kA (kB (kB (kB d0))))
noncomputable def c27 : Code := .seq (.region 8 r28 false) .ret
noncomputable def c9 : Code := .seq (.seq (.region 3 r11 false) (.cond (.tmp 6) .skip (.exit 0))) (.seq (.block 1 (.seq (.seq (.region 5 r19 false) (.cond (.tmp 13) (.seq (.region 6 r22 false) .ret) .skip)) (.region 7 r25 false))) (.region 4 r26 false))
noncomputable def c0 : Code := .seq (.region 0 r1 false) (.seq (.region 1 r3 false) (.seq (.seq (.region 2 r6 false) (.block 0 (.loop c9))) c27))
theorem body : Tryd.f12.body = some c0 := by kernel_rfl
section
variable {base : Nat} {W0 : World} {β0 : Bt}
def L0 (k : Nat) : Nat → (List UInt8) → Int → Int → HS → Option ((Int) × HS)
  | 0, _, _, _, _ => none
  | n + 1, y0, y3, y4, S =>
    (if y4 < 3 then
    (Option.bind (rollcallref12_names.f S) fun p2 =>
    (if 0 ≤ (y4 : Int) ∧ (y4 : Int) < 3 then
    (Option.bind (([p2.1.1, p2.1.2.1, p2.1.2.2])[Int.toNat y4]?) fun p4 =>
    (if p4 = y0 then
    some (y3, p2.2) else
    (L0 k n) y0 (w64 (y3 * 2)) (w64 (y4 + 1)) p2.2)) else none)) else
    some (0, S))
theorem L0_snd {k : Nat}  : ∀ {n : Nat} ⦃y0 : (List UInt8)⦄ ⦃y3 : Int⦄ ⦃y4 : Int⦄ ⦃S : HS⦄ ⦃p : (Int) × HS⦄ ⦃g1 g2 g5 g6 g7 g8 g9 g10 g11 g12 g13 g14 g15 g16 : HV⦄, L0 k n y0 y3 y4 S = some p → HRun Tryd.prog base W0 β0 12 none [.inLoop c9, .inBlock 0, .code c27] ⟨[(.str y0), g1, g2, (.int .i64 y3), (.int .i64 y4), g5, g6, g7, g8, g9, g10, g11, g12, g13, g14, g15, g16], []⟩ S (fun v S1 => v = (.int .i64 p.1) ∧ S1 = p.2) := by
  intro n
  induction n with
  | zero => intro _ _ _ _ _ _ _ _ _ _ _ _ _ _ _ _ _ _ _ h; cases h
  | succ n ih =>
    intro y0 y3 y4 S p g1 g2 g5 g6 g7 g8 g9 g10 g11 g12 g13 g14 g15 g16 h
    simp only [L0] at h
    refine hr_inLoop ?_
    refine q_seq rfl ?_
    refine q_seq rfl ?_
    refine q_region rfl rfl ?_
    refine qS 5 rfl (ok_move · (.tmp rfl)) ?_
    refine qS 6 rfl (ok_ibin · (.tmp rfl) (.int _ _) rfl) ?_
    refine hr_region_end ?_
    try dsimp only [w0, w1, w2, w3]
    rcases ifc h with ⟨hc1, h⟩ | ⟨hc1, h⟩
    · refine q_cond_t rfl (.tmp rfl) (decide_eq_true hc1) ?_
      refine q_skipc rfl ?_
      refine q_seq rfl ?_
      refine q_block rfl ?_
      refine q_seq rfl ?_
      refine q_seq rfl ?_
      refine q_region rfl rfl ?_
      obtain ⟨p2, hp2, h⟩ := bindo h
      refine q_call (dst := some 9) rfl (.func _) Evs.nil (HInv.static rollcallref12_names.at_ rollcallref12_names.body (rollcallref12_names.snd  hp2)) ?_
      rintro _ _ ⟨rfl, rfl⟩
      refine qS 10 rfl (ok_move · (.tmp rfl)) ?_
      obtain ⟨hg3, h⟩ := gd h
      obtain ⟨p4, hp4, h⟩ := bindo h
      refine qS 11 rfl (ok_indexArr · ta38 sz9 sc9 (.tmp rfl) (.tmp rfl) hg3 (idx_map (f := HV.str) hp4)) ?_
      refine qS 12 rfl (ok_move · (.tmp rfl)) ?_
      try dsimp only [w0, w1, w2, w3]
      refine qS 13 rfl (ok_sbin · (.tmp rfl) (.tmp rfl) rfl) ?_
      refine hr_region_end ?_
      try dsimp only [w0, w1, w2, w3]
      rcases ifc h with ⟨hc5, h⟩ | ⟨hc5, h⟩
      · refine q_cond_t rfl (.tmp rfl) (decide_eq_true hc5) ?_
        refine q_seq rfl ?_
        refine q_region rfl rfl ?_
        refine qS 14 rfl (ok_move · (.tmp rfl)) ?_
        refine qS 2 rfl (ok_assign · (.tmp rfl)) ?_
        refine hr_region_end ?_
        try dsimp only [w0, w1, w2, w3]
        cases h
        exact q_ret rfl at_.at_ rfl (res1 rfl rfl) ⟨rfl, rfl⟩
      · refine q_cond_f rfl (.tmp rfl) (decide_eq_false hc5) ?_
        refine q_skipc rfl ?_
        refine q_region rfl rfl ?_
        refine qS 15 rfl (ok_move · (.tmp rfl)) ?_
        refine qS 16 rfl (ok_ibin · (.tmp rfl) (.int _ _) rfl) ?_
        refine qS 3 rfl (ok_assign · (.tmp rfl)) ?_
        refine hr_region_end ?_
        try dsimp only [w0, w1, w2, w3]
        refine hr_inBlock ?_
        refine q_region rfl rfl ?_
        refine qS 7 rfl (ok_move · (.tmp rfl)) ?_
        refine qS 8 rfl (ok_ibin · (.tmp rfl) (.int _ _) rfl) ?_
        refine qS 4 rfl (ok_assign · (.tmp rfl)) ?_
        refine hr_region_end ?_
        try dsimp only [w0, w1, w2, w3]
        try dsimp only [w0, w1, w2, w3]
        exact ih h
    · refine q_cond_f rfl (.tmp rfl) (decide_eq_false hc1) ?_
      refine q_exit rfl rfl ?_
      refine q_seq rfl ?_
      refine q_region rfl rfl ?_
      refine qS 2 rfl (ok_assign · (.int _ _)) ?_
      refine hr_region_end ?_
      try dsimp only [w0, w1, w2, w3]
      cases h
      exact q_ret rfl at_.at_ rfl (res1 rfl rfl) ⟨rfl, rfl⟩
def f (k : Nat) (x0 : (List UInt8)) (S : HS) : Option ((Int) × HS) :=
  L0 k k x0 1 0 S
theorem snd {k : Nat} {x0 : (List UInt8)} {S : HS}  {p : (Int) × HS} (h : f k x0 S = some p) : HCall Tryd.prog base W0 β0 12 [(.str x0)] S (fun v S1 => v = (.int .i64 p.1) ∧ S1 = p.2) := by
  unfold f at h
  refine HCall.of_run at_.at_ body ?_
  show HRun Tryd.prog base W0 β0 12 none [.code c0] ⟨[(.str x0), τ, τ, τ, τ, τ, τ, τ, τ, τ, τ, τ, τ, τ, τ, τ, τ], []⟩ S _
  refine q_seq rfl ?_
  refine q_region rfl rfl ?_
  refine qS 2 rfl (ok_assign · (.int _ _)) ?_
  refine hr_region_end ?_
  try dsimp only [w0, w1, w2, w3]
  refine q_seq rfl ?_
  refine q_region rfl rfl ?_
  refine qS 3 rfl (ok_assign · (.int _ _)) ?_
  refine hr_region_end ?_
  try dsimp only [w0, w1, w2, w3]
  refine q_seq rfl ?_
  refine q_seq rfl ?_
  refine q_region rfl rfl ?_
  refine qS 4 rfl (ok_assign · (.int _ _)) ?_
  refine hr_region_end ?_
  try dsimp only [w0, w1, w2, w3]
  refine q_block rfl ?_
  refine q_loop rfl ?_
  try dsimp only [w0, w1, w2, w3]
  exact L0_snd  h
end
end rollcallref12_Number
namespace rollcallref12_bit
theorem at_ : FnAt Tryd.prog 17 Tryd.f17 := ⟨Tryd.func17, by kernel_rfl⟩
noncomputable def d0 := (Tryd.f17.body).getD .skip
noncomputable def r1 := kR (kA d0)
noncomputable def r3 := kR (kA (kB d0))
noncomputable def c0 : Code := .seq (.region 0 r1 false) (.seq (.region 1 r3 false) .ret)
theorem body : Tryd.f17.body = some c0 := by kernel_rfl
section
variable {base : Nat} {W0 : World} {β0 : Bt}
def f (x0 : Int) (x1 : Int) : Option (Bool) :=
  some (decide ((iand .i64 x0 x1) = x1))
theorem snd {x0 : Int} {x1 : Int} {S : HS}  {p : Bool} (h : f x0 x1 = some p) : HCall Tryd.prog base W0 β0 17 [(.int .i64 x0), (.int .i64 x1)] S (fun v S1 => v = (.bool p) ∧ S1 = S) := by
  unfold f at h
  refine HCall.of_run at_.at_ body ?_
  show HRun Tryd.prog base W0 β0 17 none [.code c0] ⟨[(.int .i64 x0), (.int .i64 x1), τ, τ, τ, τ, τ, τ, τ, τ], []⟩ S _
  refine q_seq rfl ?_
  refine q_region rfl rfl ?_
  refine qS 4 rfl (ok_assign · (.bool _)) ?_
  refine hr_region_end ?_
  try dsimp only [w0, w1, w2, w3]
  refine q_seq rfl ?_
  refine q_region rfl rfl ?_
  refine qS 5 rfl (ok_move · (.tmp rfl)) ?_
  refine qS 6 rfl (ok_move · (.tmp rfl)) ?_
  refine qS 7 rfl (ok_ibin · (.tmp rfl) (.tmp rfl) rfl) ?_
  refine qS 8 rfl (ok_move · (.tmp rfl)) ?_
  try dsimp only [w0, w1, w2, w3]
  refine qS 9 rfl (ok_ibin · (.tmp rfl) (.tmp rfl) rfl) ?_
  refine qS 4 rfl (ok_assign · (.tmp rfl)) ?_
  refine hr_region_end ?_
  try dsimp only [w0, w1, w2, w3]
  cases h
  exact q_ret rfl at_.at_ rfl (res1 rfl rfl) ⟨rfl, rfl⟩
end
end rollcallref12_bit
namespace rollcallref12_Text
theorem at_ : FnAt Tryd.prog 11 Tryd.f11 := ⟨Tryd.func11, by kernel_rfl⟩
noncomputable def d0 := (Tryd.f11.body).getD .skip
noncomputable def r1 := kR (kA d0)
noncomputable def r3 := kR (kA (kB d0))
noncomputable def d5 := kA (kB (kB d0))
noncomputable def r6 := kR (kA d5)
noncomputable def d9 := kA (kA (kB d5))
noncomputable def r11 := kR (kA (kA d9))
noncomputable def d17 := kA (kA (kB d9))
noncomputable def r18 := kR (kA d17)
noncomputable def r22 := kR (kA (kA (kA (kB d17))))
noncomputable def r24 := kR (kA (kB (kA (kA (kB d17)))))
noncomputable def r26 := kR (kB (kA (kB d17)))
noncomputable def r28 := kR (kB (kB d9))
noncomputable def r30 := kR (kA (kB (kB (kB d0))))
noncomputable def c29 : Code := .seq (.region 9 r30 false) .ret
noncomputable def c28 : Code := .region 4 r28 false
noncomputable def c26 : Code := .region 8 r26 false
noncomputable def c9 : Code := .seq (.seq (.region 3 r11 false) (.cond (.tmp 6) .skip (.exit 0))) (.seq (.block 1 (.seq (.region 5 r18 false) (.cond (.tmp 14) (.seq (.seq (.region 6 r22 false) (.cond (.tmp 16) (.region 7 r24 false) .skip)) c26) .skip))) c28)
noncomputable def c0 : Code := .seq (.region 0 r1 false) (.seq (.region 1 r3 false) (.seq (.seq (.region 2 r6 false) (.block 0 (.loop c9))) c29))
theorem body : Tryd.f11.body = some c0 := by kernel_rfl
section
variable {base : Nat} {W0 : World} {β0 : Bt}
def J2 (k : Nat) (rec0 : Int → (List UInt8) → Int → HS → Option (((List UInt8)) × HS)) (y0 : Int) (y3 : (List UInt8)) (y4 : Int) (S : HS) : Option (((List UInt8)) × HS) :=
  rec0 y0 y3 (w64 (y4 + 1)) S
theorem J2_snd {k : Nat} {rec0 : Int → (List UInt8) → Int → HS → Option (((List UInt8)) × HS)} (hrec0 : ∀ ⦃y0 : Int⦄ ⦃y3 : (List UInt8)⦄ ⦃y4 : Int⦄ ⦃S : HS⦄ ⦃p : ((List UInt8)) × HS⦄ ⦃g1 g2 g5 g6 g7 g8 g9 g10 g11 g12 g13 g14 g15 g16 g17 g18 g19 g20 g21 g22 g23 g24 : HV⦄, rec0 y0 y3 y4 S = some p → HRun Tryd.prog base W0 β0 11 none [.inLoop c9, .inBlock 0, .code c29] ⟨[(.int .i64 y0), g1, g2, (.str y3), (.int .i64 y4), g5, g6, g7, g8, g9, g10, g11, g12, g13, g14, g15, g16, g17, g18, g19, g20, g21, g22, g23, g24], []⟩ S (fun v S1 => v = (.str p.1) ∧ S1 = p.2)) {y0 : Int} {y3 : (List UInt8)} {y4 : Int} {S : HS} {p : ((List UInt8)) × HS} {g1 g2 g5 g6 g7 g8 g9 g10 g11 g12 g13 g14 g15 g16 g17 g18 g19 g20 g21 g22 g23 g24 : HV} (h : J2 k rec0 y0 y3 y4 S = some p) : HRun Tryd.prog base W0 β0 11 none [.code c28, .inLoop c9, .inBlock 0, .code c29] ⟨[(.int .i64 y0), g1, g2, (.str y3), (.int .i64 y4), g5, g6, g7, g8, g9, g10, g11, g12, g13, g14, g15, g16, g17, g18, g19, g20, g21, g22, g23, g24], []⟩ S (fun v S1 => v = (.str p.1) ∧ S1 = p.2) := by
  unfold J2 at h
  refine q_region rfl rfl ?_
  refine qS 7 rfl (ok_move · (.tmp rfl)) ?_
  refine qS 8 rfl (ok_ibin · (.tmp rfl) (.int _ _) rfl) ?_
  refine qS 4 rfl (ok_assign · (.tmp rfl)) ?_
  refine hr_region_end ?_
  try dsimp only [w0, w1, w2, w3]
  try dsimp only [w0, w1, w2, w3]
  exact hrec0 h
def J1 (k : Nat) (rec0 : Int → (List UInt8) → Int → HS → Option (((List UInt8)) × HS)) (y0 : Int) (y3 : (List UInt8)) (y4 : Int) (S : HS) : Option (((List UInt8)) × HS) :=
  (Option.bind (rollcallref12_names.f S) fun p10 =>
  (if 0 ≤ (y4 : Int) ∧ (y4 : Int) < 3 then
  (Option.bind (([p10.1.1, p10.1.2.1, p10.1.2.2])[Int.toNat y4]?) fun p12 =>
  (if List.length y3 + List.length p12 ≤ 9223372036854775807 then
  J2 k rec0 y0 (y3 ++ p12) y4 p10.2 else none)) else none))
theorem J1_snd {k : Nat} {rec0 : Int → (List UInt8) → Int → HS → Option (((List UInt8)) × HS)} (hrec0 : ∀ ⦃y0 : Int⦄ ⦃y3 : (List UInt8)⦄ ⦃y4 : Int⦄ ⦃S : HS⦄ ⦃p : ((List UInt8)) × HS⦄ ⦃g1 g2 g5 g6 g7 g8 g9 g10 g11 g12 g13 g14 g15 g16 g17 g18 g19 g20 g21 g22 g23 g24 : HV⦄, rec0 y0 y3 y4 S = some p → HRun Tryd.prog base W0 β0 11 none [.inLoop c9, .inBlock 0, .code c29] ⟨[(.int .i64 y0), g1, g2, (.str y3), (.int .i64 y4), g5, g6, g7, g8, g9, g10, g11, g12, g13, g14, g15, g16, g17, g18, g19, g20, g21, g22, g23, g24], []⟩ S (fun v S1 => v = (.str p.1) ∧ S1 = p.2)) {y0 : Int} {y3 : (List UInt8)} {y4 : Int} {S : HS} {p : ((List UInt8)) × HS} {g1 g2 g5 g6 g7 g8 g9 g10 g11 g12 g13 g14 g15 g16 g17 g18 g19 g20 g21 g22 g23 g24 : HV} (h : J1 k rec0 y0 y3 y4 S = some p) : HRun Tryd.prog base W0 β0 11 none [.code c26, .inBlock 1, .code c28, .inLoop c9, .inBlock 0, .code c29] ⟨[(.int .i64 y0), g1, g2, (.str y3), (.int .i64 y4), g5, g6, g7, g8, g9, g10, g11, g12, g13, g14, g15, g16, g17, g18, g19, g20, g21, g22, g23, g24], []⟩ S (fun v S1 => v = (.str p.1) ∧ S1 = p.2) := by
  unfold J1 at h
  refine q_region rfl rfl ?_
  refine qS 19 rfl (ok_move · (.tmp rfl)) ?_
  obtain ⟨p10, hp10, h⟩ := bindo h
  refine q_call (dst := some 20) rfl (.func _) Evs.nil (HInv.static rollcallref12_names.at_ rollcallref12_names.body (rollcallref12_names.snd  hp10)) ?_
  rintro _ _ ⟨rfl, rfl⟩
  refine qS 21 rfl (ok_move · (.tmp rfl)) ?_
  obtain ⟨hg11, h⟩ := gd h
  obtain ⟨p12, hp12, h⟩ := bindo h
  refine qS 22 rfl (ok_indexArr · ta38 sz9 sc9 (.tmp rfl) (.tmp rfl) hg11 (idx_map (f := HV.str) hp12)) ?_
  try dsimp only [w0, w1, w2, w3]
  obtain ⟨hg13, h⟩ := gd h
  refine qS 23 rfl (ok_sadd · (.tmp rfl) (.tmp rfl) hg13) ?_
  refine qS 3 rfl (ok_assign · (.tmp rfl)) ?_
  refine hr_region_end ?_
  try dsimp only [w0, w1, w2, w3]
  refine hr_inBlock ?_
  try dsimp only [w0, w1, w2, w3]
  exact J2_snd hrec0 h
def L0 (k : Nat) : Nat → Int → (List UInt8) → Int → HS → Option (((List UInt8)) × HS)
  | 0, _, _, _, _ => none
  | n + 1, y0, y3, y4, S =>
    (if y4 < 3 then
    (Option.bind (rollcallref12_names.f S) fun p2 =>
    (if 0 ≤ (y4 : Int) ∧ (y4 : Int) < 3 then
    (Option.bind (([p2.1.1, p2.1.2.1, p2.1.2.2])[Int.toNat y4]?) fun p4 =>
    (Option.bind (rollcallref12_Number.f k p4 p2.2) fun p5 =>
    (Option.bind (rollcallref12_bit.f y0 p5.1) fun p6 =>
    (if p6 = true then
    (if (!decide (y3 = ([] : List UInt8))) = true then
    (if List.length y3 + List.length ([32] : List UInt8) ≤ 9223372036854775807 then
    J1 k (L0 k n) y0 (y3 ++ ([32] : List UInt8)) y4 p5.2 else none) else
    J1 k (L0 k n) y0 y3 y4 p5.2) else
    J2 k (L0 k n) y0 y3 y4 p5.2)))) else none)) else
    some (y3, S))
theorem L0_snd {k : Nat}  : ∀ {n : Nat} ⦃y0 : Int⦄ ⦃y3 : (List UInt8)⦄ ⦃y4 : Int⦄ ⦃S : HS⦄ ⦃p : ((List UInt8)) × HS⦄ ⦃g1 g2 g5 g6 g7 g8 g9 g10 g11 g12 g13 g14 g15 g16 g17 g18 g19 g20 g21 g22 g23 g24 : HV⦄, L0 k n y0 y3 y4 S = some p → HRun Tryd.prog base W0 β0 11 none [.inLoop c9, .inBlock 0, .code c29] ⟨[(.int .i64 y0), g1, g2, (.str y3), (.int .i64 y4), g5, g6, g7, g8, g9, g10, g11, g12, g13, g14, g15, g16, g17, g18, g19, g20, g21, g22, g23, g24], []⟩ S (fun v S1 => v = (.str p.1) ∧ S1 = p.2) := by
  intro n
  induction n with
  | zero => intro _ _ _ _ _ _ _ _ _ _ _ _ _ _ _ _ _ _ _ _ _ _ _ _ _ _ _ h; cases h
  | succ n ih =>
    intro y0 y3 y4 S p g1 g2 g5 g6 g7 g8 g9 g10 g11 g12 g13 g14 g15 g16 g17 g18 g19 g20 g21 g22 g23 g24 h
    simp only [L0] at h
    refine hr_inLoop ?_
    refine q_seq rfl ?_
    refine q_seq rfl ?_
    refine q_region rfl rfl ?_
    refine qS 5 rfl (ok_move · (.tmp rfl)) ?_
    refine qS 6 rfl (ok_ibin · (.tmp rfl) (.int _ _) rfl) ?_
    refine hr_region_end ?_
    try dsimp only [w0, w1, w2, w3]
    rcases ifc h with ⟨hc1, h⟩ | ⟨hc1, h⟩
    · refine q_cond_t rfl (.tmp rfl) (decide_eq_true hc1) ?_
      refine q_skipc rfl ?_
      refine q_seq rfl ?_
      refine q_block rfl ?_
      refine q_seq rfl ?_
      refine q_region rfl rfl ?_
      refine qS 9 rfl (ok_move · (.tmp rfl)) ?_
      obtain ⟨p2, hp2, h⟩ := bindo h
      refine q_call (dst := some 10) rfl (.func _) Evs.nil (HInv.static rollcallref12_names.at_ rollcallref12_names.body (rollcallref12_names.snd  hp2)) ?_
      rintro _ _ ⟨rfl, rfl⟩
      refine qS 11 rfl (ok_move · (.tmp rfl)) ?_
      obtain ⟨hg3, h⟩ := gd h
      obtain ⟨p4, hp4, h⟩ := bindo h
      refine qS 12 rfl (ok_indexArr · ta38 sz9 sc9 (.tmp rfl) (.tmp rfl) hg3 (idx_map (f := HV.str) hp4)) ?_
      try dsimp only [w0, w1, w2, w3]
      obtain ⟨p5, hp5, h⟩ := bindo h
      refine q_call (dst := some 13) rfl (.func _) (.cons (.tmp rfl) Evs.nil) (HInv.static rollcallref12_Number.at_ rollcallref12_Number.body (rollcallref12_Number.snd  hp5)) ?_
      rintro _ _ ⟨rfl, rfl⟩
      obtain ⟨p6, hp6, h⟩ := bindo h
      refine q_call (dst := some 14) rfl (.func _) (.cons (.tmp rfl) (.cons (.tmp rfl) Evs.nil)) (HInv.static rollcallref12_bit.at_ rollcallref12_bit.body (rollcallref12_bit.snd  hp6)) ?_
      rintro _ _ ⟨rfl, rfl⟩
      refine hr_region_end ?_
      try dsimp only [w0, w1, w2, w3]
      rcases ifc h with ⟨hc7, h⟩ | ⟨hc7, h⟩
      · refine q_cond_t rfl (.tmp rfl) hc7 ?_
        refine q_seq rfl ?_
        refine q_seq rfl ?_
        refine q_region rfl rfl ?_
        refine qS 15 rfl (ok_move · (.tmp rfl)) ?_
        refine qS 16 rfl (ok_sbin · (.tmp rfl) (.str _) rfl) ?_
        refine hr_region_end ?_
        try dsimp only [w0, w1, w2, w3]
        rcases ifc h with ⟨hc8, h⟩ | ⟨hc8, h⟩
        · refine q_cond_t rfl (.tmp rfl) hc8 ?_
          refine q_region rfl rfl ?_
          refine qS 17 rfl (ok_move · (.tmp rfl)) ?_
          obtain ⟨hg9, h⟩ := gd h
          refine qS 18 rfl (ok_sadd · (.tmp rfl) (.str _) hg9) ?_
          refine qS 3 rfl (ok_assign · (.tmp rfl)) ?_
          refine hr_region_end ?_
          try dsimp only [w0, w1, w2, w3]
          try dsimp only [w0, w1, w2, w3]
          exact J1_snd ih h
        · refine q_cond_f rfl (.tmp rfl) (bfalse hc8) ?_
          refine q_skipc rfl ?_
          try dsimp only [w0, w1, w2, w3]
          exact J1_snd ih h
      · refine q_cond_f rfl (.tmp rfl) (bfalse hc7) ?_
        refine q_skipc rfl ?_
        refine hr_inBlock ?_
        try dsimp only [w0, w1, w2, w3]
        exact J2_snd ih h
    · refine q_cond_f rfl (.tmp rfl) (decide_eq_false hc1) ?_
      refine q_exit rfl rfl ?_
      refine q_seq rfl ?_
      refine q_region rfl rfl ?_
      refine qS 24 rfl (ok_move · (.tmp rfl)) ?_
      refine qS 2 rfl (ok_assign · (.tmp rfl)) ?_
      refine hr_region_end ?_
      try dsimp only [w0, w1, w2, w3]
      cases h
      exact q_ret rfl at_.at_ rfl (res1 rfl rfl) ⟨rfl, rfl⟩
def f (k : Nat) (x0 : Int) (S : HS) : Option (((List UInt8)) × HS) :=
  L0 k k x0 ([] : List UInt8) 0 S
theorem snd {k : Nat} {x0 : Int} {S : HS}  {p : ((List UInt8)) × HS} (h : f k x0 S = some p) : HCall Tryd.prog base W0 β0 11 [(.int .i64 x0)] S (fun v S1 => v = (.str p.1) ∧ S1 = p.2) := by
  unfold f at h
  refine HCall.of_run at_.at_ body ?_
  show HRun Tryd.prog base W0 β0 11 none [.code c0] ⟨[(.int .i64 x0), τ, τ, τ, τ, τ, τ, τ, τ, τ, τ, τ, τ, τ, τ, τ, τ, τ, τ, τ, τ, τ, τ, τ, τ], []⟩ S _
  refine q_seq rfl ?_
  refine q_region rfl rfl ?_
  refine qS 2 rfl (ok_assign · (.str _)) ?_
  refine hr_region_end ?_
  try dsimp only [w0, w1, w2, w3]
  refine q_seq rfl ?_
  refine q_region rfl rfl ?_
  refine qS 3 rfl (ok_assign · (.str _)) ?_
  refine hr_region_end ?_
  try dsimp only [w0, w1, w2, w3]
  refine q_seq rfl ?_
  refine q_seq rfl ?_
  refine q_region rfl rfl ?_
  refine qS 4 rfl (ok_assign · (.int _ _)) ?_
  refine hr_region_end ?_
  try dsimp only [w0, w1, w2, w3]
  refine q_block rfl ?_
  refine q_loop rfl ?_
  try dsimp only [w0, w1, w2, w3]
  exact L0_snd  h
end
end rollcallref12_Text
namespace caps_Has
theorem at_ : FnAt Tryd.prog 14 Tryd.f14 := ⟨Tryd.func14, by kernel_rfl⟩
noncomputable def d0 := (Tryd.f14.body).getD .skip
noncomputable def r1 := kR (kA d0)
noncomputable def r4 := kR (kA (kA (kB d0)))
noncomputable def r7 := kR (kA (kA (kB (kA (kB d0)))))
noncomputable def d8 := kB (kA (kB (kA (kB d0))))
noncomputable def r10 := kR (kA (kA d8))
noncomputable def r13 := kR (kA (kA (kB (kA d8))))
noncomputable def r17 := kR (kA (kB (kB d0)))
noncomputable def c8 : Code := .block 1 (.seq (.region 3 r10 false) (.cond (.tmp 12) (.seq (.region 4 r13 false) .ret) .skip))
noncomputable def c7 : Code := .region 2 r7 false
noncomputable def c0 : Code := .seq (.region 0 r1 false) (.seq (.seq (.region 1 r4 false) (.block 0 (.rangeFunc (.tmp 7) #[8, 9] c7 c8))) (.seq (.region 5 r17 false) .ret))
theorem body : Tryd.f14.body = some c0 := by kernel_rfl
section
variable {base : Nat} {W0 : World} {β0 : Bt}
def J0 (D : Dp) (H : Hd) (l : Nat) (y2 : (Option HA)) (y3 : (Option HA)) (y4 : (Option HA)) (y9 : Int) (S : HS) : Option (HV × HS) :=
  (Option.bind (HS.begin_ S l) fun p5 =>
  (Option.bind (y3) fun p6 =>
  (Option.bind (HS.ldI p5 .i64 p6) fun p7 =>
  (if y9 = p7 then
  (Option.bind (y2) fun p9 =>
  (Option.bind (HS.ldI p5 .i64 p9) fun p10 =>
  (Option.bind (y3) fun p11 =>
  (Option.bind (HS.ldI p5 .i64 p11) fun p12 =>
  (Option.bind (y4) fun p13 =>
  (Option.bind (HS.sets p5 p13 [(.bool (!decide ((iand .i64 p10 p12) = 0)))]) fun p14 =>
  (HS.endr p14 l (some .ret)))))))) else
  (HS.endr p5 l none)))))
theorem J0_snd {D : Dp} {H : Hd} {l : Nat} (hD : DSound Tryd.prog base W0 D) (hH : HSound Tryd.prog base W0 β0 H)  {y2 : (Option HA)} {y3 : (Option HA)} {y4 : (Option HA)} {y9 : Int} {S : HS} {p : HV × HS} {g0 g1 g5 g6 g7 g8 g10 g11 g12 g13 g14 g15 g16 : HV} (h : J0 D H l y2 y3 y4 y9 S = some p) : HRun Tryd.prog base W0 β0 14 (some l) [.code c7, .beginRound, .code c8] ⟨[g0, g1, (.ptr y2), (.ptr y3), (.ptr y4), g5, g6, g7, g8, (.int .i64 y9), g10, g11, g12, g13, g14, g15, g16], []⟩ S (fun v S1 => v = p.1 ∧ S1 = p.2) := by
  unfold J0 at h
  refine q_region rfl rfl ?_
  refine qS 6 rfl (ok_assign · (.tmp rfl)) ?_
  refine hr_region_end ?_
  try dsimp only [w0, w1, w2, w3]
  obtain ⟨p5, hp5, h⟩ := bindo h
  refine q_begin hp5 ?_
  refine q_block rfl ?_
  refine q_seq rfl ?_
  refine q_region rfl rfl ?_
  refine qS 10 rfl (ok_move · (.tmp rfl)) ?_
  obtain ⟨p6, hp6, h⟩ := bindo h
  obtain ⟨p7, hp7, h⟩ := bindo h
  refine qS 11 rfl (ok_load_s · sc3 (.tmp rfl) hp6 (ldI_out hp7)) ?_
  refine qS 12 rfl (ok_ibin · (.tmp rfl) (.tmp rfl) rfl) ?_
  refine hr_region_end ?_
  try dsimp only [w0, w1, w2, w3]
  rcases ifc h with ⟨hc8, h⟩ | ⟨hc8, h⟩
  · refine q_cond_t rfl (.tmp rfl) (decide_eq_true hc8) ?_
    refine q_seq rfl ?_
    refine q_region rfl rfl ?_
    obtain ⟨p9, hp9, h⟩ := bindo h
    obtain ⟨p10, hp10, h⟩ := bindo h
    refine qS 13 rfl (ok_load_s · sc3 (.tmp rfl) hp9 (ldI_out hp10)) ?_
    obtain ⟨p11, hp11, h⟩ := bindo h
    obtain ⟨p12, hp12, h⟩ := bindo h
    refine qS 14 rfl (ok_load_s · sc3 (.tmp rfl) hp11 (ldI_out hp12)) ?_
    refine qS 15 rfl (ok_ibin · (.tmp rfl) (.tmp rfl) rfl) ?_
    refine qS 16 rfl (ok_ibin · (.tmp rfl) (.int _ _) rfl) ?_
    try dsimp only [w0, w1, w2, w3]
    obtain ⟨p13, hp13, h⟩ := bindo h
    obtain ⟨p14, hp14, h⟩ := bindo h
    refine qN rfl (ok_store_s (v := (.bool (!decide ((iand .i64 p10 p12) = 0)))) · sz4 (.tmp rfl) hp13 (.tmp rfl) rfl hp14) ?_
    refine hr_region_end ?_
    try dsimp only [w0, w1, w2, w3]
    exact q_round_ret rfl h ⟨rfl, rfl⟩
  · refine q_cond_f rfl (.tmp rfl) (decide_eq_false hc8) ?_
    refine q_skipc rfl ?_
    refine hr_inBlock ?_
    exact q_round_end h ⟨rfl, rfl⟩
def f (D : Dp) (H : Hd) (x0 : Int) (x1 : Int) (S : HS) : Option ((Bool) × HS) :=
  (letv (HS.new S (.cells 1 [[(.int .i64 x0)]] true)) fun p1 =>
  (letv (HS.new p1 (.cells 1 [[(.int .i64 x1)]] true)) fun p2 =>
  (letv (HS.new p2 (.cells 1 [[(.bool false)]] true)) fun p3 =>
  (Option.bind (caps_All.f ) fun p4 =>
  (Option.bind (D (Hd.set H (HS.next p3 + 1) fun vs T =>
  (Option.bind (HS.lp T (HS.next p3 + 1)) fun u18 =>
  (Option.bind (args2 vs) fun ar15 =>
  (Option.bind (dS ar15.1) fun p16 =>
  (Option.bind (dI .i64 ar15.2) fun p17 =>
  (J0 D H (HS.next p3 + 1) (some (HA.cell0 S.next)) (some (HA.cell0 p1.next)) (some (HA.cell0 p2.next)) p17 T)))))) p4 [.fn (.yield (HS.next p3 + 1)) [] []] (HS.new (HS.new p3 .defer) (.loop .ready none))) fun p19 =>
  (Option.bind (HS.finish p19.2 (HS.next p3 + 1)) fun p20 =>
  (Option.bind (pcode p20.1) fun n21 =>
  (if n21 = 0 then
  (Option.bind (HS.sets p20.2 (HA.cell0 p2.next) [(.bool false)]) fun p23 =>
  (Option.bind (HS.leave p23 (HS.next p3 :: [])) fun p24 =>
  (Option.bind (HS.ldB p24 (HA.cell0 p2.next)) fun p25 =>
  some (p25, p24)))) else
  (if n21 = 1 then
  (Option.bind (HS.leave p20.2 (HS.next p3 :: [])) fun p27 =>
  (Option.bind (HS.ldB p27 (HA.cell0 p2.next)) fun p28 =>
  some (p28, p27))) else
  none)))))))))
theorem snd {D : Dp} {H : Hd} {x0 : Int} {x1 : Int} {S : HS} (hD : DSound Tryd.prog base W0 D) (hH : HSound Tryd.prog base W0 β0 H)  {p : (Bool) × HS} (h : f D H x0 x1 S = some p) : HCall Tryd.prog base W0 β0 14 [(.int .i64 x0), (.int .i64 x1)] S (fun v S1 => v = (.bool p.1) ∧ S1 = p.2) := by
  unfold f at h
  refine HCall.of_run at_.at_ body ?_
  show HRun Tryd.prog base W0 β0 14 none [.code c0] ⟨[(.int .i64 x0), (.int .i64 x1), τ, τ, τ, τ, τ, τ, τ, τ, τ, τ, τ, τ, τ, τ, τ], []⟩ S _
  refine q_seq rfl ?_
  refine q_region rfl rfl ?_
  obtain ⟨p1, hp1, h⟩ := leto h
  refine qS 2 rfl (ok_box_e · (.tmp rfl) (Nat.zero_lt_succ _) rfl hp1) ?_
  obtain ⟨p2, hp2, h⟩ := leto h
  refine qS 3 rfl (ok_box_e · (.tmp rfl) (Nat.zero_lt_succ _) rfl hp2) ?_
  obtain ⟨p3, hp3, h⟩ := leto h
  refine qS 4 rfl (ok_alloc_e · zi4 zr4 (by decide) rfl hp3) ?_
  refine hr_region_end ?_
  try dsimp only [w0, w1, w2, w3]
  refine q_seq rfl ?_
  refine q_seq rfl ?_
  refine q_region rfl rfl ?_
  obtain ⟨p4, hp4, h⟩ := bindo h
  refine q_call (dst := some 7) rfl (.func _) Evs.nil (HInv.static caps_All.at_ caps_All.body (caps_All.snd  hp4)) ?_
  rintro _ _ ⟨rfl, rfl⟩
  refine hr_region_end ?_
  try dsimp only [w0, w1, w2, w3]
  refine q_block rfl ?_
  obtain ⟨p19, hp19, h⟩ := bindo h
  obtain ⟨p20, hp20, h⟩ := bindo h
  obtain ⟨n21, hn21, h⟩ := bindo h
  refine q_range (D := D) (H := H) rfl (.tmp rfl) hD hH hp19 hp20 ?_ ?_
  · intro β1 hle hLA vs T u T' hr
    obtain ⟨u18, hu18, hr⟩ := bindo hr
    obtain ⟨ar15, har15, hr⟩ := bindo hr
    obtain ⟨p16, hp16, hr⟩ := bindo hr
    obtain ⟨p17, hp17, hr⟩ := bindo hr
    rw [args2_out har15]
    refine q_yield2 hLA hu18 rfl rfl ?_
    rw [dS_out hp16, dI_out hp17]
    simp only [HAct.params, List.set_cons_zero, List.set_cons_succ]
    exact J0_snd hD (hH.up hle) hr
  · rcases ifc h with ⟨hc22, h⟩ | ⟨hc22, h⟩
    · rw [pcode0 hn21 hc22]
      simp only [jumped_none, jumped_some]
      refine hr_inBlock ?_
      refine q_seq rfl ?_
      refine q_region rfl rfl ?_
      obtain ⟨p23, hp23, h⟩ := bindo h
      refine qN rfl (ok_store_s (v := (.bool false)) · sz4 (.tmp rfl) rfl (.bool _) rfl hp23) ?_
      refine hr_region_end ?_
      try dsimp only [w0, w1, w2, w3]
      obtain ⟨p24, hp24, h⟩ := bindo h
      obtain ⟨p25, hp25, h⟩ := bindo h
      cases h
      exact q_ret rfl at_.at_ hp24 (resL1 rfl (.cell rfl rfl sc4 (ldB_out hp25))) ⟨rfl, rfl⟩
    · rcases ifc h with ⟨hc26, h⟩ | ⟨hc26, h⟩
      · rw [pcode1 hn21 hc26]
        simp only [jumped_none, jumped_some]
        obtain ⟨p27, hp27, h⟩ := bindo h
        obtain ⟨p28, hp28, h⟩ := bindo h
        cases h
        exact q_ret rfl at_.at_ hp27 (resL1 rfl (.cell rfl rfl sc4 (ldB_out hp28))) ⟨rfl, rfl⟩
      · cases h
end
end caps_Has
end Go.Proofs.YtpomdkjabebmcaaDoor.X
